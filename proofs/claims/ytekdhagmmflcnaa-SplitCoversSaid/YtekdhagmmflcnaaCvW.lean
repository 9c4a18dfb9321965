/- The law SplitCovers: its walk. -/
import Derived.Test.YtekdhagmmflcnaaCvA
import Derived.Test.YtekdhagmmflcnaaCvB
import Derived.Deep.OwnRows
import Derived.Deep.DeepCutAuto
import Derived.Deep.DrawnRows
namespace Go.Proofs.Ytekdhagmmflcnaa.splitCovers
open Go.RowKit Go.Shelf
attribute [local go_sem ↓] Go.wp_at_zero Go.wp_at_succ

theorem keep_alloc {w : World} {a : Addr} {v : Value} (h : w.cell? a = some v) (o : Obj) : (w.alloc o).cell? a = some v := (World.cell?_alloc_some w a o (by rw [h]; rfl)).trans h
theorem keep_drew {w : World} {a : Addr} {v : Value} (h : w.cell? a = some v) : w.drew.cell? a = some v := h
theorem keep_set {w : World} {a p : Addr} {v u : Value} (hne : p.block ≠ a.block) (h : w.cell? a = some v) : (w.setCell p u).cell? a = some v := (World.cell?_setCell_far w p a u hne).trans h

section
variable {w : World} {A B C D : Obj} {v v' : Value}
theorem bx0 (h : v = v') : Boxed ((((w.alloc (.cells #[v] 3)).alloc B).alloc C).alloc D).drew w.heap.size 3 v' := by
  subst h; exact (((Boxed.new w 3 v).alloc B).alloc C).alloc D
theorem bx1 (h : v = v') : Boxed ((((w.alloc A).alloc (.cells #[v] 3)).alloc C).alloc D).drew (w.heap.size + 1) 3 v' := by
  subst h
  have := ((Boxed.new (w.alloc A) 3 v).alloc C).alloc D
  rw [World.size_alloc] at this; exact this
theorem bx2 (h : v = v') : Boxed ((((w.alloc A).alloc B).alloc (.cells #[v] 3)).alloc D).drew (w.heap.size + 1 + 1) 3 v' := by
  subst h
  have := (Boxed.new ((w.alloc A).alloc B) 3 v).alloc D
  rw [World.size_alloc, World.size_alloc] at this; exact this
theorem bx3 (h : v = v') : Boxed ((((w.alloc A).alloc B).alloc C).alloc (.cells #[v] 3)).drew (w.heap.size + 1 + 1 + 1) 3 v' := by
  subst h
  have := Boxed.new (((w.alloc A).alloc B).alloc C) 3 v
  rw [World.size_alloc, World.size_alloc, World.size_alloc] at this; exact this
theorem bel4 : Below w.heap.size w ((((w.alloc A).alloc B).alloc C).alloc D).drew :=
  ((((Below.refl _ w).alloc (Nat.le_refl _) A).alloc (by simp) B).alloc (by simp; omega) C).alloc (by simp; omega) D |>.drew
theorem num_at {p c : Int} (h0 : 0 ≤ p) (_ : p < 256) (c0 : 0 < c) (c1 : c ≤ 64) : Value.int .i64 (IntKind.i64.wrap (1 + IntKind.i64.wrap (p.tmod c))) = .int .i64 (1 + p % c) := by
  rw [Int.tmod_eq_emod_of_nonneg h0]
  have := Int.emod_nonneg p (show c ≠ 0 by omega)
  have := Int.emod_lt_of_pos p c0
  rw [wrap_in (x := p % c) (by omega) (by omega), wrap_in (by omega) (by omega)]
end
theorem info3 : (Try.prog.info? 3).map (fun i => (i.zero, i.size, i.bytes)) = some (some (.int .i64 0), 1, 8) := by kernel_rfl
set_option maxRecDepth 20000 in
set_option maxHeartbeats 40000000 in
theorem walk (w : World) (p q s t : Int) (hp0 : 0 ≤ p) (hp1 : p < 256) (hq0 : 0 ≤ q) (hq1 : q < 256) (hs0 : 0 ≤ s) (hs1 : s < 256) (ht0 : 0 ≤ t) (ht1 : t < 256) :
    Calls Try.prog 5 #[.int .u8 p, .int .u8 q, .agg #[.int .u8 s, .int .u8 t]] w fun e w' => e = .returned (.bool true) ∧ Below w.heap.size w w' := by
  have hbx := heap_alloc_new w (.cells #[.int .u8 s, .int .u8 t] 40)
  have hB0 := (Below.refl w.heap.size w).alloc (Nat.le_refl _) (.cells #[.int .u8 s, .int .u8 t] 40)
  have hb1 := Lib.hid hbx
  have HB0 := Lib.hid hB0
  clear hbx hB0
  go_enter Try.func5, Try.ntmps5
  go_upto_region 3 with (first | (go_at_call 6; refine (first12 _).mono ?_; rintro e w2 ⟨rfl, hb2⟩; have hB1 := HB0.out.trans (hb2.mono (by simp)); have j0 := (hb2.cell (p := ⟨w.heap.size, 0, none⟩) (by simp)).trans (cell_of_row _ _ 0 _ _ _ hb1.out); have j1 := (hb2.cell (p := ⟨w.heap.size, 1, none⟩) (by simp)).trans (cell_of_row _ _ 1 _ _ _ hb1.out); have hz2 := hb2.size; simp only [World.size_alloc, List.getElem?_toArray, List.getElem?_cons_zero, List.getElem?_cons_succ] at hz2 j0 j1; clear hb2))
  have HB1 := Lib.hid hB1
  clear hB1
  go_cut [7, 8, 9, 10] (fun s7 s8 s9 s10 wx => ∃ b7 b8 b9 b10 : Nat, s7 = .pointer (some ⟨b7, 0, none⟩) ∧ s8 = .pointer (some ⟨b8, 0, none⟩) ∧ s9 = .pointer (some ⟨b9, 0, none⟩) ∧ s10 = .pointer (some ⟨b10, 0, none⟩) ∧
    Boxed wx b7 3 (.int .i64 (1 + p % 60)) ∧ Boxed wx b8 3 (.int .i64 (1 + q % 60)) ∧ Boxed wx b9 3 (.int .i64 (1 + s % 64)) ∧ Boxed wx b10 3 (.int .i64 (1 + t % 64)) ∧ Below w2.heap.size w2 wx)
  case first =>
    have E0 := Lib.hid (num_at hp0 hp1 (by omega : (0 : Int) < 60) (by omega))
    have E1 := Lib.hid (num_at hq0 hq1 (by omega : (0 : Int) < 60) (by omega))
    have E2 := Lib.hid (num_at hs0 hs1 (by omega : (0 : Int) < 64) (by omega))
    have E3 := Lib.hid (num_at ht0 ht1 (by omega : (0 : Int) < 64) (by omega))
    go_region_held3 (fun w' => w'.cell? ⟨w.heap.size, 0, none⟩ = some (.int .u8 s) ∧ w'.cell? ⟨w.heap.size, 1, none⟩ = some (.int .u8 t)) ((refine ⟨?_, ?_⟩ <;> repeat (first | exact j0 | exact j1 | refine keep_drew ?_ | refine keep_alloc ?_ _ | (refine keep_set (by simp; omega) ?_)))) (fail)
    all_goals
      go_wp2_with fail
      go_meet
      refine ⟨_, _, _, _, rfl, rfl, rfl, rfl, ?_, ?_, ?_, ?_, ?_⟩
      · first | (with_reducible exact bx0 E0.out) | (with_reducible exact bx1 E0.out) | (with_reducible exact bx2 E0.out) | (with_reducible exact bx3 E0.out)
      · first | (with_reducible exact bx0 E1.out) | (with_reducible exact bx1 E1.out) | (with_reducible exact bx2 E1.out) | (with_reducible exact bx3 E1.out)
      · first | (with_reducible exact bx0 E2.out) | (with_reducible exact bx1 E2.out) | (with_reducible exact bx2 E2.out) | (with_reducible exact bx3 E2.out)
      · first | (with_reducible exact bx0 E3.out) | (with_reducible exact bx1 E3.out) | (with_reducible exact bx2 E3.out) | (with_reducible exact bx3 E3.out)
      · with_reducible exact bel4
  case rest =>
    obtain ⟨b7, b8, b9, b10, rfl, rfl, rfl, rfl, h7, h8, h9, h10, hbw⟩ := hcut
    have hB2 := below2 HB1.out hbw
    obtain ⟨a, ha, ha0, ha1⟩ : ∃ a : Int, 1 + p % 60 = a ∧ 1 ≤ a ∧ a ≤ 60 := ⟨_, rfl, by omega, by omega⟩
    obtain ⟨b, hb, hbb0, hbb1⟩ : ∃ a : Int, 1 + q % 60 = a ∧ 1 ≤ a ∧ a ≤ 60 := ⟨_, rfl, by omega, by omega⟩
    obtain ⟨m, hm, hm0, hm1⟩ : ∃ a : Int, 1 + s % 64 = a ∧ 1 ≤ a ∧ a ≤ 64 := ⟨_, rfl, by omega, by omega⟩
    obtain ⟨n, hn, hn0, hn1⟩ : ∃ a : Int, 1 + t % 64 = a ∧ 1 ≤ a ∧ a ≤ 64 := ⟨_, rfl, by omega, by omega⟩
    rw [ha] at h7
    rw [hb] at h8
    rw [hm] at h9
    rw [hn] at h10
    have hS2 := hbw.size
    clear ha hb hm hn hbw HB1 j0 j1 hp0 hp1 hq0 hq1 hs0 hs1 ht0 ht1 HB0 hb1
    have hr : rightI a b m n = true := rightI_of (by omega)
    obtain ⟨hab0, hab1⟩ := prod_bd (s := a) (i := b) (a := 60) (b := 60) (by omega) ha1 (by omega) hbb1
    obtain ⟨N, hN⟩ : ∃ N : Nat, a * b = (N : Int) := ⟨(a * b).toNat, by omega⟩
    have hN1 : N ≤ 3600 := by omega
    obtain ⟨i0, hi, hz0, hz1, hz2'⟩ := info_parts info3
    have HR := Lib.hid hr
    clear hr hab0 hab1
    have k7 := h7.cell
    have k8 := h8.cell
    have p7 : ∀ o o2, ((wc.alloc o).alloc o2).cell? ⟨b7, 0, none⟩ = some (.int .i64 a) := fun o o2 => ((h7.alloc o).alloc o2).cell
    have r7 : ∀ o o2 o3, (((wc.alloc o).alloc o2).alloc o3).cell? ⟨b7, 0, none⟩ = some (.int .i64 a) := fun o o2 o3 => (((h7.alloc o).alloc o2).alloc o3).cell
    have r8 : ∀ o o2 o3, (((wc.alloc o).alloc o2).alloc o3).cell? ⟨b8, 0, none⟩ = some (.int .i64 b) := fun o o2 o3 => (((h8.alloc o).alloc o2).alloc o3).cell
    have r9 : ∀ o o2 o3, (((wc.alloc o).alloc o2).alloc o3).cell? ⟨b9, 0, none⟩ = some (.int .i64 m) := fun o o2 o3 => (((h9.alloc o).alloc o2).alloc o3).cell
    have r10 : ∀ o o2 o3, (((wc.alloc o).alloc o2).alloc o3).cell? ⟨b10, 0, none⟩ = some (.int .i64 n) := fun o o2 o3 => (((h10.alloc o).alloc o2).alloc o3).cell
    go_wp2_with (first
      | (at_make; refine wpList_make_row _ rfl _ _ 41 rfl 3 i0 (.int .i64 0) Try.underlying41 hi hz0 hz1 rfl .i64 .i64 N rfl rfl (by rw [hz2']; omega) (by omega) ?_)
      | (go_at_call 7; refine (list_any _ _ _ _ _).mono ?_; rintro e w5 ⟨v, rfl, hown, hb5⟩; obtain ⟨A, cap, gl, rfl, hA, hg, hcell⟩ := splitStops.own_shape2 hown; simp only [World.size_alloc] at hg; have hC := cov_start w wc w5 HR.out hN h7 h8 h9 h10 hB2 hb5 hcell; have HC := Lib.hid hC; have HA := Lib.hid hA; have HG := Lib.hid hg; have hS5 := hb5.size; simp only [World.size_alloc] at hS5; clear k7 k8 p7 r7 r8 r9 r10 hown hcell hb5 hC hA hg))
    have HN := Lib.hid hN
    have o7 := h7.lt
    have o8 := h8.lt
    have o9 := h9.lt
    have o10 := h10.lt
    clear hN hB2 h7 h8 h9 h10 hi hz0 hz1 hz2'
    go_loopw [49] (fun i wr => ∃ k : Nat, k ≤ cntI a b m n ∧ i = .int .i64 k ∧ Hid (Cov w a b m n b7 b8 b9 b10 wc.heap.size gl k 0 wr)) (fun i _ => (cntI a b m n - intOf i).toNat)
    case atStart => exact ⟨0, by omega, rfl, HC⟩
    case round =>
      clear HC
      obtain ⟨k, hk, rfl, hC⟩ := hrel
      have hcn := cnt_le a b m n
      by_cases hlt : k < cntI a b m n
      · obtain rfl : A = some ⟨gl, 0, none⟩ := by
          rcases HA.out with h | h
          · omega
          · exact h
        have d0 := hC.out.list k 0 hlt (by omega)
        have d1 := hC.out.list k 1 hlt (by omega)
        have d2 := hC.out.list k 2 hlt (by omega)
        have d3 := hC.out.list k 3 hlt (by omega)
        simp only [rectL, List.getElem?_cons_zero, List.getElem?_cons_succ, Nat.add_zero] at d0 d1 d2 d3
        obtain ⟨lo, hi, hwd, hl1, hl2, hl3, hl4⟩ := hC.out.wide
        have w0 : ∀ o o2, ((wr.alloc o).alloc o2).cell? ⟨wc.heap.size + 1 + 1, 0, none⟩ = some (.int .i64 lo) := fun o o2 => keep_alloc (keep_alloc (cell_of_row _ _ 0 _ _ _ hwd) o) o2
        have w1 : ∀ o o2, ((wr.alloc o).alloc o2).cell? ⟨wc.heap.size + 1 + 1, 1, none⟩ = some (.int .i64 hi) := fun o o2 => keep_alloc (keep_alloc (cell_of_row _ _ 1 _ _ _ hwd) o) o2
        have f0 : ∀ o o2, ((wr.alloc o).alloc o2).frozen? ⟨wc.heap.size + 1 + 1, 0, none⟩ = false := fun o o2 => frozen_of_row _ _ 0 _ _ (block_later (block_later hwd ((Below.refl _ _).alloc (Nat.le_refl _) o)) ((Below.refl _ _).alloc (Nat.le_refl _) o2))
        have f1 : ∀ o o2, ((wr.alloc o).alloc o2).frozen? ⟨wc.heap.size + 1 + 1, 1, none⟩ = false := fun o o2 => frozen_of_row _ _ 1 _ _ (block_later (block_later hwd ((Below.refl _ _).alloc (Nat.le_refl _) o)) ((Below.refl _ _).alloc (Nat.le_refl _) o2))
        have hlw := hC.out.lt
        have ne1 : wr.heap.size + 1 ≠ wc.heap.size + 1 + 1 := by omega
        have ne2 : wc.heap.size + 1 + 1 ≠ wr.heap.size + 1 := by omega
        have HWD := Lib.hid hwd
        obtain ⟨X, hX⟩ : ∃ X, X = fromI a m (colI m k) := ⟨_, rfl⟩
        obtain ⟨Y, hY⟩ : ∃ X, X = fromI b n (rowI m n k) := ⟨_, rfl⟩
        obtain ⟨Wd, hW⟩ : ∃ X, X = fromI a m (colI m k + 1) - fromI a m (colI m k) := ⟨_, rfl⟩
        obtain ⟨Hd, hH⟩ : ∃ X, X = fromI b n (rowI m n k + 1) - fromI b n (rowI m n k) := ⟨_, rfl⟩
        have hwb := from_wide (s := a) (p := m) (i := colI m k) hm0
        rw [← hW] at d2 hwb
        rw [← hX] at d0
        rw [← hY] at d1
        rw [← hH] at d3
        have HX := Lib.hid hX
        have HY := Lib.hid hY
        have HW := Lib.hid hW
        have HH := Lib.hid hH
        have i1 : (0 : Int) ≤ (k : Int) := by omega
        have i2 : (k : Int) < (cntI a b m n : Int) := by omega
        obtain ⟨hwb0, hwb1⟩ := hwb
        clear hwd hX hY hW hH
        by_cases c1 : Wd < lo <;> by_cases c2 : hi < Wd
        all_goals
          go_wp2_with (first
            | (go_at_call 13; refine (points_any _ _ _ _ _).mono ?_; rintro e w6 ⟨rfl, rfl⟩; clear d0 d1 d2 d3 w0 w1 f0 f1 ne1 ne2))
          refine Calls.mono (cov_call2 w _ a b m n X Y Wd Hd b7 b8 b9 b10 wc.heap.size gl wr.heap.size k _ HX.out HY.out HW.out HH.out HR.out ha1 hbb1 hlt ?_ ?_ (by omega) ⟨o7, o8, o9, o10⟩ (HG.out.imp id (fun h => h.2)) (by omega) ?_) ?_
          · exact hC.out.wider _ _ _ _ (by omega) (by omega) (by omega) (by omega) ⟨o7, o8, o9, o10⟩ (HG.out.imp id (fun h => h.2)) (by omega)
          · exact box_wider wr k _ wc.heap.size hlw _ _
          · simp
          rintro e w7 ⟨rfl, hC7⟩
          have HC7 := Lib.hid hC7
          clear hC7
          go_wp2_with fail
          go_roundw
          case rel => exact ⟨k + 1, by omega, by go_num, HC7⟩
          case measure => simp [intOf]; omega

      · have hkc : k = cntI a b m n := by omega
        have hC2 := hC.out
        rw [hkc] at hC2
        have hone := cov_done HR.out HN.out hC2
        obtain ⟨lo, hi, hwd, hl1, hl2, hl3, hl4⟩ := hC2.wide
        have w0 : wr.cell? ⟨wc.heap.size + 1 + 1, 0, none⟩ = some (.int .i64 lo) := cell_of_row _ _ 0 _ _ _ hwd
        have w1 : wr.cell? ⟨wc.heap.size + 1 + 1, 1, none⟩ = some (.int .i64 hi) := cell_of_row _ _ 1 _ _ _ hwd
        have s0 := hC2.sb.cell
        have hNN : (a * b).toNat = N := by have := HN.out; omega
        rw [hNN] at s0
        have HB := Lib.hid hC2.bel
        have hd : hi - lo ≤ 1 := by omega
        have HO := Lib.hid hone
        clear hkc hC2 hwd hNN hone
        go_wp2_with fail
        go_loop [72] (fun i => ∃ q : Nat, q ≤ N ∧ i = .int .i64 q) (fun i => (N - intOf i).toNat)
        case atStart => exact ⟨0, by omega, rfl⟩
        case round =>
          obtain ⟨q, hq, rfl⟩ := hrel
          by_cases hqn : q < N
          · have x0 := HO.out q hqn
            have i1 : (0 : Int) ≤ (q : Int) := by omega
            have i2 : (q : Int) < (N : Int) := by omega
            go_wp2
            go_round
            case rel => exact ⟨q + 1, by omega, by go_num⟩
            case measure => simp [intOf]; omega
          · go_wp2
            go_ret
            exact ⟨rfl, HB.out⟩
end Go.Proofs.Ytekdhagmmflcnaa.splitCovers
