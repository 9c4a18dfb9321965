/- The law GopOrders: its walk. -/
import Derived.Test.YtmnkbcigjbiniaaGoE
namespace Go.Proofs.Ytmnkbcigjbiniaa.gopOrders
open Go.RowKit

set_option maxRecDepth 20000 in
set_option maxHeartbeats 4000000 in
theorem walk (w : World) (n p b stop : Int) :
    Calls Try.prog 3 #[.int .i64 n, .agg #[.int .i64 p, .int .i64 b], .int .i64 stop] w fun e w' => e = .returned (.bool true) ∧ Below w.heap.size w w' := by
  have hB0 := (Below.refl w.heap.size w).alloc (Nat.le_refl _) (.cells #[.int .i64 p, .int .i64 b] 23)
  have hX0 := heap_alloc_new w (.cells #[.int .i64 p, .int .i64 b] 23)
  have hb := (Below.refl _ (w.alloc (.cells #[.int .i64 p, .int .i64 b] 23))).alloc (Nat.le_refl _) (.cells #[.int .i64 stop] 3)
  have hX1 := heap_alloc_new (w.alloc (.cells #[.int .i64 p, .int .i64 b] 23)) (.cells #[.int .i64 stop] 3)
  rw [World.size_alloc] at hX1
  have HX := Lib.hid (And.intro (block_later hX0 hb) hX1)
  have HB0 := Lib.hid (below_up hB0 hb)
  clear hB0 hX0 hX1 hb
  by_cases hbig : 200 < n ∧ n ≤ 1000
  · obtain ⟨h1, h2⟩ := hbig
    have d1 : decide ((200 : Int) < n) = true := decide_eq_true h1
    have d2 : decide (n ≤ (1000 : Int)) = true := decide_eq_true h2
    clear h1 h2
    go_enter Try.func3, Try.ntmps3
    go_wp2_with (go_at_call 7; refine (first32 _).mono ?_; rintro e w1 ⟨rfl, hb1⟩; have HB1 := Lib.hid (below_up HB0.out hb1); clear hb1)
    go_ret
    exact ⟨rfl, HB1.out⟩
  go_enter Try.func3, Try.ntmps3
  go_wp2_with fail
  refine (first32 _).mono ?_
  rintro e w1 ⟨rfl, hb1⟩
  have HX1 := Lib.hid (And.intro (block_later HX.out.1 hb1) (block_later HX.out.2 hb1))
  have HB1 := Lib.hid (below_up HB0.out hb1)
  clear hb1
  go_upto_region 3 with fail
  go_cut [22] (fun t wx => t = .bool false ∧ wx = w1)
  case first =>
    by_cases h1 : 200 < n
    · have d1 : decide ((200 : Int) < n) = true := decide_eq_true h1
      have d2 : decide (n ≤ (1000 : Int)) = false := decide_eq_false (fun h => hbig ⟨h1, h⟩)
      clear h1 hbig
      go_wp2_with fail
      go_meet
      exact ⟨rfl, rfl⟩
    · have d1 : decide ((200 : Int) < n) = false := decide_eq_false h1
      clear h1 hbig
      go_wp2_with fail
      go_meet
      exact ⟨rfl, rfl⟩
  case rest =>
    obtain ⟨rfl, rfl⟩ := hcut
    clear hbig
    go_upto_region 5 with fail
    obtain ⟨xb, hxb⟩ : ∃ xb, xb = w.heap.size := ⟨_, rfl⟩
    rw [← hxb]
    rw [← hxb] at HX1
    have HXB := Lib.hid hxb
    have HSS := Lib.hid (show ∀ V, Below wc.heap.size wc V → V.cell? ⟨xb, 0, none⟩ = some (.int .i64 p) ∧ V.cell? ⟨xb, 1, none⟩ = some (.int .i64 b) from fun V hV => ⟨cell_of_row _ _ 0 _ _ _ (block_later HX1.out.1 hV), cell_of_row _ _ 1 _ _ _ (block_later HX1.out.1 hV)⟩)
    clear hxb HX
    go_cut [7, 8] (fun x y wx => ∃ A c A2 c2, x = .slice A (cntA n p b) c ∧ y = .slice A2 (cntA n p b) c2 ∧ Hid (ARow wx x n p b) ∧ Hid (ARow wx y n p b) ∧ Hid (Below wc.heap.size wc wx))
    case first =>
      have hbw := Below.refl wc.heap.size wc
      go_region_held_law (fun V => V.cell? ⟨xb, 0, none⟩ = some (.int .i64 p) ∧ V.cell? ⟨xb, 1, none⟩ = some (.int .i64 b))
        (exact HSS.out _ (by first | exact hbw | exact hbw.drew))
        (first
          | (go_at_call 8; refine (anchors_any n p b _).mono ?_; rintro e w3 ⟨v3, rfl, hown3, hb3⟩; have hbw := below_up (by first | exact hbw | exact hbw.drew) hb3; have har3 := ARow.of hown3; clear hown3 hb3)
          | (go_at_call 9; refine (refAnchors_any n p b _).mono ?_; rintro e w4 ⟨v4, rfl, hown4, hb4⟩; have hbw := below_up (by first | exact hbw | exact hbw.drew) hb4; have har4 := ARow.of hown4; have har3 := har3.later hb4; clear hown4 hb4))
      obtain ⟨A3, c3, g3, hv3, _, _⟩ := id har3
      obtain ⟨A4, c4, g4, hv4, _, _⟩ := id har4
      have HF := Lib.hid (And.intro har3 (And.intro har4 (And.intro hbw (And.intro hv3 hv4))))
      clear har3 har4 hbw hv3 hv4
      go_wp2_with fail
      go_meet
      exact ⟨A3, c3, A4, c4, HF.out.2.2.2.1, HF.out.2.2.2.2, Lib.hid HF.out.1, Lib.hid HF.out.2.1, Lib.hid HF.out.2.2.1⟩
    case rest =>
      obtain ⟨A3, c3, A4, c4, rfl, rfl, HA3, HA4, HB5⟩ := hcut
      have HX5 := Lib.hid (And.intro (block_later HX1.out.1 HB5.out) (block_later HX1.out.2 HB5.out))
      have HB6 := Lib.hid (below_up HB1.out HB5.out)
      clear HSS HX1 HB1 HB5
      go_upto_region 6 with fail
      have HSS := Lib.hid (show ∀ V, Below wc.heap.size wc V → V.cell? ⟨xb, 0, none⟩ = some (.int .i64 p) ∧ V.cell? ⟨xb, 1, none⟩ = some (.int .i64 b) from fun V hV => ⟨cell_of_row _ _ 0 _ _ _ (block_later HX5.out.1 hV), cell_of_row _ _ 1 _ _ _ (block_later HX5.out.1 hV)⟩)
      go_cut [9, 10] (fun x y wx => ∃ A c wB, x = .slice A (shots n p b).length c ∧ y = .pointer (some ⟨wB, 0, none⟩) ∧ Hid (LRow wx x (shots n p b)) ∧ Hid (∃ A2 c2, wx.heap[wB]? = some (.cells #[.slice A2 (shots n p b).length c2] 27 (0, 0)) ∧ LRow wx (.slice A2 (shots n p b).length c2) (shots n p b)) ∧ Hid (Below wc.heap.size wc wx))
      case first =>
        have hbw := Below.refl wc.heap.size wc
        have hz0 : wc.heap.size ≤ wc.heap.size := Nat.le_refl _
        go_region_held_law (fun V => V.cell? ⟨xb, 0, none⟩ = some (.int .i64 p) ∧ V.cell? ⟨xb, 1, none⟩ = some (.int .i64 b))
          (exact HSS.out _ (by first | exact hbw | exact hbw.drew | exact hbw.alloc hbw.size _ | exact (hbw.drew).alloc hbw.size _ | exact (hbw.alloc hbw.size _).drew | exact hbw.setCell (p := ⟨_, 0, none⟩) (by first | assumption | exact Nat.le_refl _) _ | exact (hbw.alloc hbw.size _).setCell (p := ⟨_, 0, none⟩) hbw.size _))
          (first
            | (go_at_call 10; refine (list_any n p b _).mono ?_; rintro e w3 ⟨v3, xs3, rfl, hm3, ho3, hg3, hb3⟩; have hbw := below_up (by first | exact hbw | exact hbw.drew | exact hbw.alloc hbw.size _ | exact (hbw.drew).alloc hbw.size _ | exact (hbw.alloc hbw.size _).drew) hb3; have hz3 : wc.heap.size ≤ w3.heap.size := hbw.size; have hl3 : LRow w3 v3 (shots n p b) := ⟨xs3, _, hm3, ho3, hg3⟩; (first | (have hw27 : w3.heap[wc.heap.size]? = some (.cells #[.slice none 0 0] 27 (0, 0)) := block_later (heap_alloc_new wc.drew (.cells #[.slice none 0 0] 27)) hb3) | (have hw27 : w3.heap[wc.heap.size]? = some (.cells #[.slice none 0 0] 27 (0, 0)) := block_later (heap_alloc_new wc (.cells #[.slice none 0 0] 27)) hb3) | skip); obtain ⟨A5, c5, rfl⟩ := hl3.form; clear hm3 ho3 hg3 hb3)
            | (go_at_call 11; refine (refList_any n p b _).mono ?_; rintro e w4 ⟨v4, xs4, rfl, hm4, ho4, hg4, hb4⟩; have hbw := below_up (by first | exact hbw | exact hbw.drew | exact hbw.alloc hbw.size _ | exact (hbw.drew).alloc hbw.size _ | exact (hbw.alloc hbw.size _).drew) hb4; have hz4 : wc.heap.size ≤ w4.heap.size := hbw.size; have hl4 : LRow w4 v4 (shots n p b) := ⟨xs4, _, hm4, ho4, hg4⟩; have hl3 : LRow w4 (.slice A5 (shots n p b).length c5) (shots n p b) := (by first | exact hl3.later hb4 | exact (hl3.later ((Below.refl _ _).alloc (Nat.le_refl _) _)).later hb4); (first | (have hw27 := block_later hw27 hb4) | (have hw27 : w4.heap[w3.heap.size]? = some (.cells #[.slice none 0 0] 27 (0, 0)) := block_later (heap_alloc_new _ (.cells #[.slice none 0 0] 27)) hb4) | skip); (first | (have cw : World.cell? w4 ⟨_, 0, none⟩ = some (.slice none 0 0) := cell_of_row _ _ 0 _ _ _ hw27; have fw := frozen_of_row _ _ 0 _ _ hw27) | skip); obtain ⟨A6, c6, rfl⟩ := hl4.form; clear hm4 ho4 hg4 hb4))
        all_goals
          go_wp2_with fail
          go_meet
          first
            | exact ⟨A5, c5, _, rfl, rfl, Lib.hid (hl3.set hw27 _), Lib.hid ⟨A6, c6, heap_setCell_same _ _ 0 _ _ _ hw27, hl4.set hw27 _⟩, Lib.hid (hbw.setCell (p := ⟨_, 0, none⟩) (by first | assumption | exact Nat.le_refl _) _)⟩
            | exact ⟨A5, c5, _, rfl, rfl, Lib.hid (hl3.later ((Below.refl _ _).alloc (Nat.le_refl _) _)), Lib.hid ⟨A6, c6, heap_alloc_new _ _, hl4.later ((Below.refl _ _).alloc (Nat.le_refl _) _)⟩, Lib.hid (hbw.alloc hbw.size _)⟩
      case rest =>
        obtain ⟨A5, c5, wB, rfl, rfl, HL5, HW5, HB7⟩ := hcut
        have HX7 := Lib.hid (And.intro (block_later HX5.out.1 HB7.out) (block_later HX5.out.2 HB7.out))
        have HA3' := Lib.hid (HA3.out.later HB7.out)
        have HA4' := Lib.hid (HA4.out.later HB7.out)
        have HB8 := Lib.hid (below_up HB6.out HB7.out)
        clear HSS HX5 HB6 HB7 HA3 HA4
        obtain ⟨A6, c6, hw6, hl6⟩ := HW5.out
        have HW6 := Lib.hid hw6
        have HL6 := Lib.hid hl6
        clear hw6 hl6 HW5
        have hN9 := shots_le n p b
        obtain ⟨N, hN⟩ : ∃ N, N = (shots n p b).length := ⟨_, rfl⟩
        rw [← hN] at HW6 HL6 HL5 hN9 ⊢
        have HN := Lib.hid hN
        clear hN
        obtain ⟨wv, hwv⟩ : ∃ wv, wv = wc := ⟨_, rfl⟩
        have HSS := Lib.hid (show ∀ V, Below wc.heap.size wc V → V.cell? ⟨xb, 0, none⟩ = some (.int .i64 p) ∧ V.cell? ⟨xb, 1, none⟩ = some (.int .i64 b) ∧ V.cell? ⟨wB, 0, none⟩ = some (.slice A6 N c6) from fun V hV => ⟨cell_of_row _ _ 0 _ _ _ (block_later HX7.out.1 hV), cell_of_row _ _ 1 _ _ _ (block_later HX7.out.1 hV), cell_of_row _ _ 0 _ _ _ (block_later HW6.out hV)⟩)
        clear hwv
        go_upto_region 7 with fail
        go_cut [53] (fun t wx => t = .bool false ∧ Hid (Below wc.heap.size wc wx))
        case first =>
          have hbw := Below.refl wc.heap.size wc
          have hrr : (rightG p b != rightG p b) = false := by simp
          go_region_held_law (fun V => V.cell? ⟨xb, 0, none⟩ = some (.int .i64 p) ∧ V.cell? ⟨xb, 1, none⟩ = some (.int .i64 b) ∧ V.cell? ⟨wB, 0, none⟩ = some (.slice A6 N c6))
            (exact HSS.out _ (by first | exact hbw | exact hbw.drew))
            (first
              | (go_at_call 12; refine (right_any p b _).mono ?_; rintro e w3 ⟨rfl, hb3⟩; have hbw := below_up (by first | exact hbw | exact hbw.drew) hb3; clear hb3)
              | (go_at_call 13; refine (refRight_any p b _).mono ?_; rintro e w4 ⟨rfl, hb4⟩; have hbw := below_up (by first | exact hbw | exact hbw.drew) hb4; clear hb4))
          all_goals
            go_wp2_with fail
            go_meet
            exact ⟨by simp, Lib.hid (by first | exact hbw | exact hbw.drew)⟩
        case rest =>
          obtain ⟨rfl, HB9⟩ := hcut
          have HX9 := Lib.hid (And.intro (block_later HX7.out.1 HB9.out) (block_later HX7.out.2 HB9.out))
          have HA3 := Lib.hid (HA3'.out.later HB9.out)
          have HA4 := Lib.hid (HA4'.out.later HB9.out)
          have HL5' := Lib.hid (HL5.out.later HB9.out)
          have HL6' := Lib.hid (HL6.out.later HB9.out)
          have HW6' := Lib.hid (block_later HW6.out HB9.out)
          have HB10 := Lib.hid (below_up HB8.out HB9.out)
          clear HX7 HA3' HA4' HL5 HL6 HW6 HB8 HB9 HSS
          have hcn := cntA_le n p b
          go_wp2_with fail
          go_loopw [56] (fun i wr => ∃ (j : Nat), j ≤ cntA n p b ∧ i = .int .i64 j ∧ Hid (Below wc.heap.size wc wr)) (fun i _ => (cntA n p b - intOf i).toNat)
          case atStart => exact ⟨0, by omega, rfl, Lib.hid (Below.refl _ _)⟩
          case round =>
            obtain ⟨j, hj, rfl, hB⟩ := hrel
            by_cases hlt : j < cntA n p b
            · obtain ⟨g3, rfl, y3⟩ := (HA3.out.later hB.out).at hlt
              obtain ⟨g4, rfl, y4⟩ := (HA4.out.later hB.out).at hlt
              obtain ⟨r, hr⟩ : ∃ r, r = ancA n b j := ⟨_, rfl⟩
              rw [← hr] at y3 y4
              have i1 : (0 : Int) ≤ (j : Int) := by omega
              have i2 : (j : Int) < (cntA n p b : Int) := by omega
              clear hr
              go_wp2_with fail
              go_quiet (fail)
              go_wp2_with fail
              go_roundw
              case rel => exact ⟨j + 1, by omega, by go_num, Lib.hid (hB.out.trans ⟨rfl, rfl, rfl, Nat.le_refl _, fun _ _ => rfl⟩)⟩
              case measure => simp [intOf]; omega
            · obtain rfl : j = cntA n p b := by omega
              have HX11 := Lib.hid (And.intro (block_later HX9.out.1 hB.out) (block_later HX9.out.2 hB.out))
              have HL5 := Lib.hid (HL5'.out.later hB.out)
              have HL6 := Lib.hid (HL6'.out.later hB.out)
              have HW6 := Lib.hid (block_later HW6'.out hB.out)
              have HB11 := Lib.hid (below_up HB10.out hB.out)
              obtain ⟨wd, hwd⟩ : ∃ wd, wd = wr := ⟨_, rfl⟩
              rw [← hwd] at HX11 HL5 HL6 HW6 HB11 ⊢
              clear HX9 HL5' HL6' HW6' HB10 HA3 HA4 hB hwd hcn
              go_wp2_with fail
              go_loopw [71] (fun i wr => ∃ (j : Nat), j ≤ N ∧ i = .int .i64 j ∧ Hid (Below wd.heap.size wd wr)) (fun i _ => (N - intOf i).toNat)
              case atStart => exact ⟨0, by omega, rfl, Lib.hid (Below.refl _ _)⟩
              case round =>
                obtain ⟨j, hj, rfl, hB⟩ := hrel
                by_cases hlt : j < N
                · obtain ⟨s, hs⟩ : ∃ s, (shots n p b)[j]? = some s := ⟨_, List.getElem?_eq_getElem (by rw [← HN.out]; exact hlt)⟩
                  have h5 := HL5.out.later hB.out
                  have h6 := HL6.out.later hB.out
                  obtain ⟨g5, B5, m5, k5, rfl, a0, a1, a2, a3, q5⟩ := h5.at hs
                  obtain ⟨g6, B6, m6, k6, rfl, b0, b1, b2, b3, q6⟩ := h6.at hs
                  have hrl := refs_le (List.mem_of_getElem? hs)
                  obtain ⟨num, l, kept, ret⟩ := s
                  dsimp only at *
                  have HSS := Lib.hid (show ∀ V, Below wr.heap.size wr V → V.cell? ⟨wB, 0, none⟩ = some (.slice (some ⟨g6, 0, none⟩) N c6) ∧ V.cell? ⟨g5, j * 4, none⟩ = some (.int .i64 num) ∧ V.cell? ⟨g5, j * 4 + 1, none⟩ = some (.slice B5 m5 k5) ∧ V.cell? ⟨g5, j * 4 + 2, none⟩ = some (.bool kept) ∧ V.cell? ⟨g5, j * 4 + 3, none⟩ = some (.int .i64 ret) ∧ V.cell? ⟨g6, j * 4, none⟩ = some (.int .i64 num) ∧ V.cell? ⟨g6, j * 4 + 1, none⟩ = some (.slice B6 m6 k6) ∧ V.cell? ⟨g6, j * 4 + 2, none⟩ = some (.bool kept) ∧ V.cell? ⟨g6, j * 4 + 3, none⟩ = some (.int .i64 ret) from fun V hV => ⟨cell_of_row _ _ 0 _ _ _ (block_later HW6.out (hB.out.trans (hV.mono hB.out.size))), cell_later a0 hV, cell_later a1 hV, cell_later a2 hV, cell_later a3 hV, cell_later b0 hV, cell_later b1 hV, cell_later b2 hV, cell_later b3 hV⟩)
                  have HQ := Lib.hid (show ∀ V, Below wr.heap.size wr V → RefsAt V (.slice B5 m5 k5) l ∧ RefsAt V (.slice B6 m6 k6) l from fun V hV => ⟨q5.below hV, q6.below hV⟩)
                  have HRL := Lib.hid hrl
                  have hbw := Below.refl wr.heap.size wr
                  have i1 : (0 : Int) ≤ (j : Int) := by omega
                  have i2 : (j : Int) < (N : Int) := by omega
                  clear h5 h6 hs a0 a1 a2 a3 b0 b1 b2 b3 q5 q6 hrl
                  go_wp2_with fail
                  go_region_held_law (fun V => V.cell? ⟨wB, 0, none⟩ = some (.slice (some ⟨g6, 0, none⟩) N c6) ∧ V.cell? ⟨g5, j * 4, none⟩ = some (.int .i64 num) ∧ V.cell? ⟨g5, j * 4 + 1, none⟩ = some (.slice B5 m5 k5) ∧ V.cell? ⟨g5, j * 4 + 2, none⟩ = some (.bool kept) ∧ V.cell? ⟨g5, j * 4 + 3, none⟩ = some (.int .i64 ret) ∧ V.cell? ⟨g6, j * 4, none⟩ = some (.int .i64 num) ∧ V.cell? ⟨g6, j * 4 + 1, none⟩ = some (.slice B6 m6 k6) ∧ V.cell? ⟨g6, j * 4 + 2, none⟩ = some (.bool kept) ∧ V.cell? ⟨g6, j * 4 + 3, none⟩ = some (.int .i64 ret))
                    (exact HSS.out _ (by first | exact hbw | exact hbw.drew))
                    (first
                      | (go_at_call 14; refine (same_yes ⟨num, l, kept, ret⟩ _ _ _ (HQ.out _ hbw.drew).1 (HQ.out _ hbw.drew).2 HRL.out).mono ?_; rintro e w3 ⟨rfl, hb3⟩; have hbw := below_up hbw.drew hb3; clear hb3))
                  have HB3 := Lib.hid (below_up hB.out hbw)
                  clear hbw
                  go_wp2_with fail
                  go_roundw
                  case rel => exact ⟨j + 1, by omega, by go_num, HB3⟩
                  case measure => simp [intOf]; omega
                · obtain rfl : j = N := by omega
                  have HX12 := Lib.hid (And.intro (block_later HX11.out.1 hB.out) (block_later HX11.out.2 hB.out))
                  have HL6' := Lib.hid (HL6.out.later hB.out)
                  have HW6' := Lib.hid (block_later HW6.out hB.out)
                  have HB12 := Lib.hid (below_up HB11.out hB.out)
                  obtain ⟨we, hwe⟩ : ∃ we, we = wr := ⟨_, rfl⟩
                  rw [← hwe] at HX12 HL6' HW6' HB12 ⊢
                  clear HX11 HL5 HL6 HW6 HB11 hB hwe
                  go_upto_region 22 with fail
                  obtain ⟨W3, hW3⟩ : ∃ W3, W3 = (we.alloc (.cells #[.int .i64 0] 3)).alloc (.cells #[.bool true] 4) := ⟨_, rfl⟩
                  rw [← hW3]
                  have hal1 := (Below.refl we.heap.size we).alloc (Nat.le_refl _) (.cells #[.int .i64 0] 3)
                  have hal2 := (Below.refl _ (we.alloc (.cells #[.int .i64 0] 3))).alloc (Nat.le_refl _) (.cells #[.bool true] 4)
                  have hT0 : TI we 0 W3 := ⟨by rw [hW3]; exact below_up hal1 hal2, by rw [hW3]; exact block_later (heap_alloc_new we (.cells #[.int .i64 0] 3)) hal2, by
                    rw [hW3]
                    have := heap_alloc_new (we.alloc (.cells #[.int .i64 0] 3)) (.cells #[.bool true] 4)
                    rw [World.size_alloc] at this
                    exact this⟩
                  have hsz3 : W3.heap.size = we.heap.size + 2 := by rw [hW3]; simp
                  have HT0 := Lib.hid hT0
                  have HSZ3 := Lib.hid hsz3
                  have hxx := block_later HX12.out.1 hT0.below
                  have z0 : W3.cell? ⟨xb, 0, none⟩ = some (.int .i64 p) := cell_of_row _ _ 0 _ _ _ hxx
                  have z1 : W3.cell? ⟨xb, 1, none⟩ = some (.int .i64 b) := cell_of_row _ _ 1 _ _ _ hxx
                  clear hW3 hal1 hal2 hT0 hsz3 hxx
                  go_wp2_with fail
                  refine (all_any n p b _).mono ?_
                  rintro e W4 ⟨rfl, hbx⟩
                  have HT4 := Lib.hid (HT0.out.later hbx.below)
                  have hc0 := hbx.c0
                  have hc1 := hbx.c1
                  have hsz := HSZ3.out
                  rw [hsz] at hc0 hc1 ⊢
                  have HTEL := Lib.hid (telling HW6'.out HX12.out.2 HL6'.out HN.out W4 HT4.out hc0 hc1)
                  have HB4 := Lib.hid (below_up HB12.out HT4.out.below)
                  clear hbx hc0 hc1 hsz z0 z1
                  go_wp2_with fail
                  refine HTEL.out.mono ?_
                  clear HTEL
                  rintro e W5 ⟨rfl, K, hT5, hK⟩
                  have z2 : W5.cell? ⟨we.heap.size, 0, none⟩ = some (.int .i64 (K : Nat)) := cell_of_row _ _ 0 _ _ _ hT5.k
                  have z3 : W5.cell? ⟨we.heap.size + 1, 0, none⟩ = some (.bool true) := cell_of_row _ _ 0 _ _ _ hT5.ok
                  have z4 : W5.cell? ⟨wB, 0, none⟩ = some (.slice A6 j c6) := cell_of_row _ _ 0 _ _ _ (block_later HW6'.out hT5.below)
                  have z5 : W5.cell? ⟨xb + 1, 0, none⟩ = some (.int .i64 stop) := cell_of_row _ _ 0 _ _ _ (block_later HX12.out.2 hT5.below)
                  have HB5 := Lib.hid (below_up HB12.out hT5.below)
                  clear hT5
                  rcases hK with rfl | ⟨rfl, hKl⟩
                  · go_wp2
                    go_ret
                    exact ⟨rfl, HB5.out⟩
                  · have hne : ((K : Int) == (j : Int)) = false := by simp; omega
                    have hlt2 : (K : Int) < (j : Int) := by omega
                    go_wp2
                    go_ret
                    exact ⟨rfl, HB5.out⟩
end Go.Proofs.Ytmnkbcigjbiniaa.gopOrders
