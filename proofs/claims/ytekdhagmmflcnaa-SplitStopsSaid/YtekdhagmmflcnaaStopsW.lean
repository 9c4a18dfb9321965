/- The law SplitStops: its walk. -/
import Derived.Test.YtekdhagmmflcnaaStE
namespace Go.Proofs.Ytekdhagmmflcnaa.splitStops
open Go.RowKit Go.Shelf

theorem le_or {x : Int} {c : Nat} (h : x ≤ c) : (x == (c : Int) || decide (x < (c : Int))) = true := by
  simp only [Bool.or_eq_true, beq_iff_eq, decide_eq_true_eq]; omega

set_option maxRecDepth 20000 in
set_option maxHeartbeats 4000000 in
theorem walk (w : World) (X Y W H m n stop : Int) :
    Calls Try.prog 4 #[.agg #[.int .i64 X, .int .i64 Y, .int .i64 W, .int .i64 H], .agg #[.int .i64 m, .int .i64 n], .int .i64 stop] w fun e w' => e = .returned (.bool true) ∧ Below w.heap.size w w' := by
  have hM0 := Lib.hid (base_mk w X Y W H m n stop)
  by_cases hwide : 100 < W ∧ W ≤ 1024
  · obtain ⟨hW0, hW1⟩ := hwide
    go_enter Try.func4, Try.ntmps4
    go_wp2_with (go_at_call 6; refine (first12 _).mono ?_; rintro e w2 ⟨rfl, hb2⟩; have hM := hM0.out.below hb2; have k2 := hM.r.c2; have k3 := hM.r.c3; have HM := Lib.hid hM; clear hM hb2)
    go_ret
    exact ⟨rfl, HM.out.bel⟩
  by_cases hhigh : 100 < H ∧ H ≤ 1024
  · obtain ⟨hH0, hH1⟩ := hhigh
    go_enter Try.func4, Try.ntmps4
    go_wp2_with (go_at_call 6; refine (first12 _).mono ?_; rintro e w2 ⟨rfl, hb2⟩; have hM := hM0.out.below hb2; have k2 := hM.r.c2; have k3 := hM.r.c3; have HM := Lib.hid hM; clear hM hb2)
    all_goals
      go_ret
      exact ⟨rfl, HM.out.bel⟩
  by_cases hside : 1 ≤ W ∧ W ≤ 100 ∧ 1 ≤ H ∧ H ≤ 100
  · obtain ⟨hW0, hW1, hH0, hH1⟩ := hside
    clear hwide hhigh
    have hWH : 1 ≤ W * H ∧ W * H ≤ 10000 := ⟨Int.mul_pos (by omega) (by omega), Int.mul_le_mul hW1 hH1 (by omega) (by omega)⟩
    obtain ⟨hA0, hA1⟩ := hWH
    go_enter Try.func4, Try.ntmps4
    go_wp2_with (first
      | (go_at_call 6; refine (first12 _).mono ?_; rintro e w2 ⟨rfl, hb2⟩; have hM := hM0.out.below hb2; have k2 := hM.r.c2; have k3 := hM.r.c3; have a2 : ∀ o, (w2.alloc o).cell? ⟨w.heap.size, 2, none⟩ = some (.int .i64 W) := fun o => (hM.alloc o).r.c2; have a3 : ∀ o, (w2.alloc o).cell? ⟨w.heap.size, 3, none⟩ = some (.int .i64 H) := fun o => (hM.alloc o).r.c3; have b0 : ∀ o o2 o3, (((w2.alloc o).alloc o2).alloc o3).cell? ⟨w.heap.size, 0, none⟩ = some (.int .i64 X) := fun o o2 o3 => (((hM.alloc o).alloc o2).alloc o3).r.c0; have b1 : ∀ o o2 o3, (((w2.alloc o).alloc o2).alloc o3).cell? ⟨w.heap.size, 1, none⟩ = some (.int .i64 Y) := fun o o2 o3 => (((hM.alloc o).alloc o2).alloc o3).r.c1; have b2 : ∀ o o2 o3, (((w2.alloc o).alloc o2).alloc o3).cell? ⟨w.heap.size, 2, none⟩ = some (.int .i64 W) := fun o o2 o3 => (((hM.alloc o).alloc o2).alloc o3).r.c2; have b3 : ∀ o o2 o3, (((w2.alloc o).alloc o2).alloc o3).cell? ⟨w.heap.size, 3, none⟩ = some (.int .i64 H) := fun o o2 o3 => (((hM.alloc o).alloc o2).alloc o3).r.c3; have HM := Lib.hid hM; clear hM hb2)
      | (go_at_call 13; refine (points_any _ _ _ _ _).mono ?_; rintro e w3 ⟨rfl, rfl⟩)
      | (go_at_call 21; refine (points_call w w2 X Y W H m n stop (W * H) HM.out (fun _ _ => rfl) (fun h => absurd h (by unfold sideI; simp; omega)) (by omega) (by omega)).mono ?_; rintro e w4 ⟨rfl, k, hP, hk⟩; have ko := hP.o.cell; have kn := hP.n.cell; have ka := hP.a.cell; have ks := hP.base.s.cell; have kW := hP.base.r.c2; have kH := hP.base.r.c3; have kp0 := cell_of_row _ _ 0 _ _ _ hP.base.p; have kp1 := cell_of_row _ _ 1 _ _ _ hP.base.p; have HP := Lib.hid hP; clear hP k2 k3 a2 a3 b0 b1 b2 b3; rcases hk with hk | ⟨hk, hka⟩)
      | (go_at_call 8; refine (refList_any _ _ _ _ w4).mono ?_; rintro e w5 ⟨v, rfl, hown, hb5⟩; obtain ⟨A, cap, g, rfl, hA, hg, hcell⟩ := own_shape2 hown; have hM5 := HP.out.base.below hb5; have ho5 := boxed_below HP.out.o hb5; have hol := HP.out.o.lt; have a2 : ∀ o o2, ((w5.alloc o).alloc o2).cell? ⟨w.heap.size, 2, none⟩ = some (.int .i64 W) := fun o o2 => ((hM5.alloc o).alloc o2).r.c2; have a3 : ∀ o o2, ((w5.alloc o).alloc o2).cell? ⟨w.heap.size, 3, none⟩ = some (.int .i64 H) := fun o o2 => ((hM5.alloc o).alloc o2).r.c3; have b0 : ∀ o o2, ((w5.alloc o).alloc o2).cell? ⟨w.heap.size + 1, 0, none⟩ = some (.int .i64 m) := fun o o2 => cell_of_row _ _ 0 _ _ _ ((hM5.alloc o).alloc o2).p; have b1 : ∀ o o2, ((w5.alloc o).alloc o2).cell? ⟨w.heap.size + 1, 1, none⟩ = some (.int .i64 n) := fun o o2 => cell_of_row _ _ 1 _ _ _ ((hM5.alloc o).alloc o2).p; have HM5 := Lib.hid hM5; have HO5 := Lib.hid ho5; have HL := Lib.hid hol; have HA := Lib.hid hA; have HG := Lib.hid hg; have HCE := Lib.hid hcell; clear hown hb5 hM5 ho5 hol hA hg hcell ko kn ka ks kW kH kp0 kp1)
      | (go_at_call 15; refine (all_any _ _ _ _ _).mono ?_; rintro e V2 ⟨rfl, hV2⟩; simp only [World.size_alloc])
      | (go_at_call 22; refine (parts_call w w5 V2 X Y W H m n _ (w2.heap.size + 1 + 1) g cap A HM5.out HO5.out (by have := HM.out.lt; omega) HA.out (HG.out.imp id (fun h => ⟨h.1, by have := HL.out; omega⟩)) (fun k t hk ht => (HCE.out (k * 4 + t) (by omega)).trans (parts_get W H m n hk ht)) hV2).mono ?_; rintro e w7 ⟨rfl, k2, hP2, hk2⟩; have ko := hP2.o.cell; have kk := hP2.k.cell; have kl := hP2.l.cell; have kst := hP2.base.s.cell; have HP2 := Lib.hid hP2; clear hP2 a2 a3 b0 b1 hV2; rcases hk2 with hk2 | ⟨hk2, hk3⟩))
    all_goals
      go_ret
      first
        | exact ⟨rfl, HP2.out.base.bel⟩
        | exact ⟨rfl, HM.out.bel⟩
        | exact ⟨retb_eq (le_or (by omega)), HP2.out.base.bel⟩
        | exact ⟨retb_eq (by simp only [Bool.or_eq_true, beq_iff_eq, decide_eq_true_eq]; omega), HP2.out.base.bel⟩
  have hs : sideI W = true → sideI H = true → False := fun a b => by
    have := sideI_yes a
    have := sideI_yes b
    omega
  have HS := Lib.hid hs
  clear hs
  by_cases hc : W < 1
  · clear hwide hhigh hside
    go_enter Try.func4, Try.ntmps4
    go_wp2_with (first
      | (go_at_call 6; refine (first12 _).mono ?_; rintro e w2 ⟨rfl, hb2⟩; have hM := hM0.out.below hb2; have k2 := hM.r.c2; have k3 := hM.r.c3; have a2 : ∀ o, (w2.alloc o).cell? ⟨w.heap.size, 2, none⟩ = some (.int .i64 W) := fun o => (hM.alloc o).r.c2; have a3 : ∀ o, (w2.alloc o).cell? ⟨w.heap.size, 3, none⟩ = some (.int .i64 H) := fun o => (hM.alloc o).r.c3; have b0 : ∀ o o2 o3, (((w2.alloc o).alloc o2).alloc o3).cell? ⟨w.heap.size, 0, none⟩ = some (.int .i64 X) := fun o o2 o3 => (((hM.alloc o).alloc o2).alloc o3).r.c0; have b1 : ∀ o o2 o3, (((w2.alloc o).alloc o2).alloc o3).cell? ⟨w.heap.size, 1, none⟩ = some (.int .i64 Y) := fun o o2 o3 => (((hM.alloc o).alloc o2).alloc o3).r.c1; have b2 : ∀ o o2 o3, (((w2.alloc o).alloc o2).alloc o3).cell? ⟨w.heap.size, 2, none⟩ = some (.int .i64 W) := fun o o2 o3 => (((hM.alloc o).alloc o2).alloc o3).r.c2; have b3 : ∀ o o2 o3, (((w2.alloc o).alloc o2).alloc o3).cell? ⟨w.heap.size, 3, none⟩ = some (.int .i64 H) := fun o o2 o3 => (((hM.alloc o).alloc o2).alloc o3).r.c3; have HM := Lib.hid hM; clear hM hb2)
      | (go_at_call 13; refine (points_any _ _ _ _ _).mono ?_; rintro e w3 ⟨rfl, rfl⟩)
      | (go_at_call 21; refine (points_call w w2 X Y W H m n stop 0 HM.out (fun a b => (HS.out a b).elim) (fun _ => rfl) (by omega) (by omega)).mono ?_; rintro e w4 ⟨rfl, k, hP, hk⟩; have ko := hP.o.cell; have kn := hP.n.cell; have ka := hP.a.cell; have ks := hP.base.s.cell; have kW := hP.base.r.c2; have kH := hP.base.r.c3; have kp0 := cell_of_row _ _ 0 _ _ _ hP.base.p; have kp1 := cell_of_row _ _ 1 _ _ _ hP.base.p; have HP := Lib.hid hP; clear hP k2 k3 a2 a3 b0 b1 b2 b3; rcases hk with hk | ⟨hk, hka⟩)
      | (go_at_call 8; refine (refList_any _ _ _ _ w4).mono ?_; rintro e w5 ⟨v, rfl, hown, hb5⟩; obtain ⟨A, cap, g, rfl, hA, hg, hcell⟩ := own_shape2 hown; have hM5 := HP.out.base.below hb5; have ho5 := boxed_below HP.out.o hb5; have hol := HP.out.o.lt; have a2 : ∀ o o2, ((w5.alloc o).alloc o2).cell? ⟨w.heap.size, 2, none⟩ = some (.int .i64 W) := fun o o2 => ((hM5.alloc o).alloc o2).r.c2; have a3 : ∀ o o2, ((w5.alloc o).alloc o2).cell? ⟨w.heap.size, 3, none⟩ = some (.int .i64 H) := fun o o2 => ((hM5.alloc o).alloc o2).r.c3; have b0 : ∀ o o2, ((w5.alloc o).alloc o2).cell? ⟨w.heap.size + 1, 0, none⟩ = some (.int .i64 m) := fun o o2 => cell_of_row _ _ 0 _ _ _ ((hM5.alloc o).alloc o2).p; have b1 : ∀ o o2, ((w5.alloc o).alloc o2).cell? ⟨w.heap.size + 1, 1, none⟩ = some (.int .i64 n) := fun o o2 => cell_of_row _ _ 1 _ _ _ ((hM5.alloc o).alloc o2).p; have HM5 := Lib.hid hM5; have HO5 := Lib.hid ho5; have HL := Lib.hid hol; have HA := Lib.hid hA; have HG := Lib.hid hg; have HCE := Lib.hid hcell; clear hown hb5 hM5 ho5 hol hA hg hcell ko kn ka ks kW kH kp0 kp1)
      | (go_at_call 15; refine (all_any _ _ _ _ _).mono ?_; rintro e V2 ⟨rfl, hV2⟩; simp only [World.size_alloc])
      | (go_at_call 22; refine (parts_call w w5 V2 X Y W H m n _ (w2.heap.size + 1 + 1) g cap A HM5.out HO5.out (by have := HM.out.lt; omega) HA.out (HG.out.imp id (fun h => ⟨h.1, by have := HL.out; omega⟩)) (fun k t hk ht => (HCE.out (k * 4 + t) (by omega)).trans (parts_get W H m n hk ht)) hV2).mono ?_; rintro e w7 ⟨rfl, k2, hP2, hk2⟩; have ko := hP2.o.cell; have kk := hP2.k.cell; have kl := hP2.l.cell; have kst := hP2.base.s.cell; have HP2 := Lib.hid hP2; clear hP2 a2 a3 b0 b1 hV2; rcases hk2 with hk2 | ⟨hk2, hk3⟩))
    all_goals
      go_ret
      first
        | exact ⟨rfl, HP2.out.base.bel⟩
        | exact ⟨rfl, HM.out.bel⟩
        | exact ⟨retb_eq (le_or (by omega)), HP2.out.base.bel⟩
        | exact ⟨retb_eq (by simp only [Bool.or_eq_true, beq_iff_eq, decide_eq_true_eq]; omega), HP2.out.base.bel⟩
  by_cases hc : 1024 < W
  · clear hwide hhigh hside
    go_enter Try.func4, Try.ntmps4
    go_wp2_with (first
      | (go_at_call 6; refine (first12 _).mono ?_; rintro e w2 ⟨rfl, hb2⟩; have hM := hM0.out.below hb2; have k2 := hM.r.c2; have k3 := hM.r.c3; have a2 : ∀ o, (w2.alloc o).cell? ⟨w.heap.size, 2, none⟩ = some (.int .i64 W) := fun o => (hM.alloc o).r.c2; have a3 : ∀ o, (w2.alloc o).cell? ⟨w.heap.size, 3, none⟩ = some (.int .i64 H) := fun o => (hM.alloc o).r.c3; have b0 : ∀ o o2 o3, (((w2.alloc o).alloc o2).alloc o3).cell? ⟨w.heap.size, 0, none⟩ = some (.int .i64 X) := fun o o2 o3 => (((hM.alloc o).alloc o2).alloc o3).r.c0; have b1 : ∀ o o2 o3, (((w2.alloc o).alloc o2).alloc o3).cell? ⟨w.heap.size, 1, none⟩ = some (.int .i64 Y) := fun o o2 o3 => (((hM.alloc o).alloc o2).alloc o3).r.c1; have b2 : ∀ o o2 o3, (((w2.alloc o).alloc o2).alloc o3).cell? ⟨w.heap.size, 2, none⟩ = some (.int .i64 W) := fun o o2 o3 => (((hM.alloc o).alloc o2).alloc o3).r.c2; have b3 : ∀ o o2 o3, (((w2.alloc o).alloc o2).alloc o3).cell? ⟨w.heap.size, 3, none⟩ = some (.int .i64 H) := fun o o2 o3 => (((hM.alloc o).alloc o2).alloc o3).r.c3; have HM := Lib.hid hM; clear hM hb2)
      | (go_at_call 13; refine (points_any _ _ _ _ _).mono ?_; rintro e w3 ⟨rfl, rfl⟩)
      | (go_at_call 21; refine (points_call w w2 X Y W H m n stop 0 HM.out (fun a b => (HS.out a b).elim) (fun _ => rfl) (by omega) (by omega)).mono ?_; rintro e w4 ⟨rfl, k, hP, hk⟩; have ko := hP.o.cell; have kn := hP.n.cell; have ka := hP.a.cell; have ks := hP.base.s.cell; have kW := hP.base.r.c2; have kH := hP.base.r.c3; have kp0 := cell_of_row _ _ 0 _ _ _ hP.base.p; have kp1 := cell_of_row _ _ 1 _ _ _ hP.base.p; have HP := Lib.hid hP; clear hP k2 k3 a2 a3 b0 b1 b2 b3; rcases hk with hk | ⟨hk, hka⟩)
      | (go_at_call 8; refine (refList_any _ _ _ _ w4).mono ?_; rintro e w5 ⟨v, rfl, hown, hb5⟩; obtain ⟨A, cap, g, rfl, hA, hg, hcell⟩ := own_shape2 hown; have hM5 := HP.out.base.below hb5; have ho5 := boxed_below HP.out.o hb5; have hol := HP.out.o.lt; have a2 : ∀ o o2, ((w5.alloc o).alloc o2).cell? ⟨w.heap.size, 2, none⟩ = some (.int .i64 W) := fun o o2 => ((hM5.alloc o).alloc o2).r.c2; have a3 : ∀ o o2, ((w5.alloc o).alloc o2).cell? ⟨w.heap.size, 3, none⟩ = some (.int .i64 H) := fun o o2 => ((hM5.alloc o).alloc o2).r.c3; have b0 : ∀ o o2, ((w5.alloc o).alloc o2).cell? ⟨w.heap.size + 1, 0, none⟩ = some (.int .i64 m) := fun o o2 => cell_of_row _ _ 0 _ _ _ ((hM5.alloc o).alloc o2).p; have b1 : ∀ o o2, ((w5.alloc o).alloc o2).cell? ⟨w.heap.size + 1, 1, none⟩ = some (.int .i64 n) := fun o o2 => cell_of_row _ _ 1 _ _ _ ((hM5.alloc o).alloc o2).p; have HM5 := Lib.hid hM5; have HO5 := Lib.hid ho5; have HL := Lib.hid hol; have HA := Lib.hid hA; have HG := Lib.hid hg; have HCE := Lib.hid hcell; clear hown hb5 hM5 ho5 hol hA hg hcell ko kn ka ks kW kH kp0 kp1)
      | (go_at_call 15; refine (all_any _ _ _ _ _).mono ?_; rintro e V2 ⟨rfl, hV2⟩; simp only [World.size_alloc])
      | (go_at_call 22; refine (parts_call w w5 V2 X Y W H m n _ (w2.heap.size + 1 + 1) g cap A HM5.out HO5.out (by have := HM.out.lt; omega) HA.out (HG.out.imp id (fun h => ⟨h.1, by have := HL.out; omega⟩)) (fun k t hk ht => (HCE.out (k * 4 + t) (by omega)).trans (parts_get W H m n hk ht)) hV2).mono ?_; rintro e w7 ⟨rfl, k2, hP2, hk2⟩; have ko := hP2.o.cell; have kk := hP2.k.cell; have kl := hP2.l.cell; have kst := hP2.base.s.cell; have HP2 := Lib.hid hP2; clear hP2 a2 a3 b0 b1 hV2; rcases hk2 with hk2 | ⟨hk2, hk3⟩))
    all_goals
      go_ret
      first
        | exact ⟨rfl, HP2.out.base.bel⟩
        | exact ⟨rfl, HM.out.bel⟩
        | exact ⟨retb_eq (le_or (by omega)), HP2.out.base.bel⟩
        | exact ⟨retb_eq (by simp only [Bool.or_eq_true, beq_iff_eq, decide_eq_true_eq]; omega), HP2.out.base.bel⟩
  have hc1 : 1 ≤ W := by omega
  have hc2 : W ≤ 100 := by omega
  by_cases hc : H < 1
  · clear hwide hhigh hside
    go_enter Try.func4, Try.ntmps4
    go_wp2_with (first
      | (go_at_call 6; refine (first12 _).mono ?_; rintro e w2 ⟨rfl, hb2⟩; have hM := hM0.out.below hb2; have k2 := hM.r.c2; have k3 := hM.r.c3; have a2 : ∀ o, (w2.alloc o).cell? ⟨w.heap.size, 2, none⟩ = some (.int .i64 W) := fun o => (hM.alloc o).r.c2; have a3 : ∀ o, (w2.alloc o).cell? ⟨w.heap.size, 3, none⟩ = some (.int .i64 H) := fun o => (hM.alloc o).r.c3; have b0 : ∀ o o2 o3, (((w2.alloc o).alloc o2).alloc o3).cell? ⟨w.heap.size, 0, none⟩ = some (.int .i64 X) := fun o o2 o3 => (((hM.alloc o).alloc o2).alloc o3).r.c0; have b1 : ∀ o o2 o3, (((w2.alloc o).alloc o2).alloc o3).cell? ⟨w.heap.size, 1, none⟩ = some (.int .i64 Y) := fun o o2 o3 => (((hM.alloc o).alloc o2).alloc o3).r.c1; have b2 : ∀ o o2 o3, (((w2.alloc o).alloc o2).alloc o3).cell? ⟨w.heap.size, 2, none⟩ = some (.int .i64 W) := fun o o2 o3 => (((hM.alloc o).alloc o2).alloc o3).r.c2; have b3 : ∀ o o2 o3, (((w2.alloc o).alloc o2).alloc o3).cell? ⟨w.heap.size, 3, none⟩ = some (.int .i64 H) := fun o o2 o3 => (((hM.alloc o).alloc o2).alloc o3).r.c3; have HM := Lib.hid hM; clear hM hb2)
      | (go_at_call 13; refine (points_any _ _ _ _ _).mono ?_; rintro e w3 ⟨rfl, rfl⟩)
      | (go_at_call 21; refine (points_call w w2 X Y W H m n stop 0 HM.out (fun a b => (HS.out a b).elim) (fun _ => rfl) (by omega) (by omega)).mono ?_; rintro e w4 ⟨rfl, k, hP, hk⟩; have ko := hP.o.cell; have kn := hP.n.cell; have ka := hP.a.cell; have ks := hP.base.s.cell; have kW := hP.base.r.c2; have kH := hP.base.r.c3; have kp0 := cell_of_row _ _ 0 _ _ _ hP.base.p; have kp1 := cell_of_row _ _ 1 _ _ _ hP.base.p; have HP := Lib.hid hP; clear hP k2 k3 a2 a3 b0 b1 b2 b3; rcases hk with hk | ⟨hk, hka⟩)
      | (go_at_call 8; refine (refList_any _ _ _ _ w4).mono ?_; rintro e w5 ⟨v, rfl, hown, hb5⟩; obtain ⟨A, cap, g, rfl, hA, hg, hcell⟩ := own_shape2 hown; have hM5 := HP.out.base.below hb5; have ho5 := boxed_below HP.out.o hb5; have hol := HP.out.o.lt; have a2 : ∀ o o2, ((w5.alloc o).alloc o2).cell? ⟨w.heap.size, 2, none⟩ = some (.int .i64 W) := fun o o2 => ((hM5.alloc o).alloc o2).r.c2; have a3 : ∀ o o2, ((w5.alloc o).alloc o2).cell? ⟨w.heap.size, 3, none⟩ = some (.int .i64 H) := fun o o2 => ((hM5.alloc o).alloc o2).r.c3; have b0 : ∀ o o2, ((w5.alloc o).alloc o2).cell? ⟨w.heap.size + 1, 0, none⟩ = some (.int .i64 m) := fun o o2 => cell_of_row _ _ 0 _ _ _ ((hM5.alloc o).alloc o2).p; have b1 : ∀ o o2, ((w5.alloc o).alloc o2).cell? ⟨w.heap.size + 1, 1, none⟩ = some (.int .i64 n) := fun o o2 => cell_of_row _ _ 1 _ _ _ ((hM5.alloc o).alloc o2).p; have HM5 := Lib.hid hM5; have HO5 := Lib.hid ho5; have HL := Lib.hid hol; have HA := Lib.hid hA; have HG := Lib.hid hg; have HCE := Lib.hid hcell; clear hown hb5 hM5 ho5 hol hA hg hcell ko kn ka ks kW kH kp0 kp1)
      | (go_at_call 15; refine (all_any _ _ _ _ _).mono ?_; rintro e V2 ⟨rfl, hV2⟩; simp only [World.size_alloc])
      | (go_at_call 22; refine (parts_call w w5 V2 X Y W H m n _ (w2.heap.size + 1 + 1) g cap A HM5.out HO5.out (by have := HM.out.lt; omega) HA.out (HG.out.imp id (fun h => ⟨h.1, by have := HL.out; omega⟩)) (fun k t hk ht => (HCE.out (k * 4 + t) (by omega)).trans (parts_get W H m n hk ht)) hV2).mono ?_; rintro e w7 ⟨rfl, k2, hP2, hk2⟩; have ko := hP2.o.cell; have kk := hP2.k.cell; have kl := hP2.l.cell; have kst := hP2.base.s.cell; have HP2 := Lib.hid hP2; clear hP2 a2 a3 b0 b1 hV2; rcases hk2 with hk2 | ⟨hk2, hk3⟩))
    all_goals
      go_ret
      first
        | exact ⟨rfl, HP2.out.base.bel⟩
        | exact ⟨rfl, HM.out.bel⟩
        | exact ⟨retb_eq (le_or (by omega)), HP2.out.base.bel⟩
        | exact ⟨retb_eq (by simp only [Bool.or_eq_true, beq_iff_eq, decide_eq_true_eq]; omega), HP2.out.base.bel⟩
  · have hc3 : 1024 < H := by omega
    clear hwide hhigh hside hc
    go_enter Try.func4, Try.ntmps4
    go_wp2_with (first
      | (go_at_call 6; refine (first12 _).mono ?_; rintro e w2 ⟨rfl, hb2⟩; have hM := hM0.out.below hb2; have k2 := hM.r.c2; have k3 := hM.r.c3; have a2 : ∀ o, (w2.alloc o).cell? ⟨w.heap.size, 2, none⟩ = some (.int .i64 W) := fun o => (hM.alloc o).r.c2; have a3 : ∀ o, (w2.alloc o).cell? ⟨w.heap.size, 3, none⟩ = some (.int .i64 H) := fun o => (hM.alloc o).r.c3; have b0 : ∀ o o2 o3, (((w2.alloc o).alloc o2).alloc o3).cell? ⟨w.heap.size, 0, none⟩ = some (.int .i64 X) := fun o o2 o3 => (((hM.alloc o).alloc o2).alloc o3).r.c0; have b1 : ∀ o o2 o3, (((w2.alloc o).alloc o2).alloc o3).cell? ⟨w.heap.size, 1, none⟩ = some (.int .i64 Y) := fun o o2 o3 => (((hM.alloc o).alloc o2).alloc o3).r.c1; have b2 : ∀ o o2 o3, (((w2.alloc o).alloc o2).alloc o3).cell? ⟨w.heap.size, 2, none⟩ = some (.int .i64 W) := fun o o2 o3 => (((hM.alloc o).alloc o2).alloc o3).r.c2; have b3 : ∀ o o2 o3, (((w2.alloc o).alloc o2).alloc o3).cell? ⟨w.heap.size, 3, none⟩ = some (.int .i64 H) := fun o o2 o3 => (((hM.alloc o).alloc o2).alloc o3).r.c3; have HM := Lib.hid hM; clear hM hb2)
      | (go_at_call 13; refine (points_any _ _ _ _ _).mono ?_; rintro e w3 ⟨rfl, rfl⟩)
      | (go_at_call 21; refine (points_call w w2 X Y W H m n stop 0 HM.out (fun a b => (HS.out a b).elim) (fun _ => rfl) (by omega) (by omega)).mono ?_; rintro e w4 ⟨rfl, k, hP, hk⟩; have ko := hP.o.cell; have kn := hP.n.cell; have ka := hP.a.cell; have ks := hP.base.s.cell; have kW := hP.base.r.c2; have kH := hP.base.r.c3; have kp0 := cell_of_row _ _ 0 _ _ _ hP.base.p; have kp1 := cell_of_row _ _ 1 _ _ _ hP.base.p; have HP := Lib.hid hP; clear hP k2 k3 a2 a3 b0 b1 b2 b3; rcases hk with hk | ⟨hk, hka⟩)
      | (go_at_call 8; refine (refList_any _ _ _ _ w4).mono ?_; rintro e w5 ⟨v, rfl, hown, hb5⟩; obtain ⟨A, cap, g, rfl, hA, hg, hcell⟩ := own_shape2 hown; have hM5 := HP.out.base.below hb5; have ho5 := boxed_below HP.out.o hb5; have hol := HP.out.o.lt; have a2 : ∀ o o2, ((w5.alloc o).alloc o2).cell? ⟨w.heap.size, 2, none⟩ = some (.int .i64 W) := fun o o2 => ((hM5.alloc o).alloc o2).r.c2; have a3 : ∀ o o2, ((w5.alloc o).alloc o2).cell? ⟨w.heap.size, 3, none⟩ = some (.int .i64 H) := fun o o2 => ((hM5.alloc o).alloc o2).r.c3; have b0 : ∀ o o2, ((w5.alloc o).alloc o2).cell? ⟨w.heap.size + 1, 0, none⟩ = some (.int .i64 m) := fun o o2 => cell_of_row _ _ 0 _ _ _ ((hM5.alloc o).alloc o2).p; have b1 : ∀ o o2, ((w5.alloc o).alloc o2).cell? ⟨w.heap.size + 1, 1, none⟩ = some (.int .i64 n) := fun o o2 => cell_of_row _ _ 1 _ _ _ ((hM5.alloc o).alloc o2).p; have HM5 := Lib.hid hM5; have HO5 := Lib.hid ho5; have HL := Lib.hid hol; have HA := Lib.hid hA; have HG := Lib.hid hg; have HCE := Lib.hid hcell; clear hown hb5 hM5 ho5 hol hA hg hcell ko kn ka ks kW kH kp0 kp1)
      | (go_at_call 15; refine (all_any _ _ _ _ _).mono ?_; rintro e V2 ⟨rfl, hV2⟩; simp only [World.size_alloc])
      | (go_at_call 22; refine (parts_call w w5 V2 X Y W H m n _ (w2.heap.size + 1 + 1) g cap A HM5.out HO5.out (by have := HM.out.lt; omega) HA.out (HG.out.imp id (fun h => ⟨h.1, by have := HL.out; omega⟩)) (fun k t hk ht => (HCE.out (k * 4 + t) (by omega)).trans (parts_get W H m n hk ht)) hV2).mono ?_; rintro e w7 ⟨rfl, k2, hP2, hk2⟩; have ko := hP2.o.cell; have kk := hP2.k.cell; have kl := hP2.l.cell; have kst := hP2.base.s.cell; have HP2 := Lib.hid hP2; clear hP2 a2 a3 b0 b1 hV2; rcases hk2 with hk2 | ⟨hk2, hk3⟩))
    all_goals
      go_ret
      first
        | exact ⟨rfl, HP2.out.base.bel⟩
        | exact ⟨rfl, HM.out.bel⟩
        | exact ⟨retb_eq (le_or (by omega)), HP2.out.base.bel⟩
        | exact ⟨retb_eq (by simp only [Bool.or_eq_true, beq_iff_eq, decide_eq_true_eq]; omega), HP2.out.base.bel⟩
end Go.Proofs.Ytekdhagmmflcnaa.splitStops
