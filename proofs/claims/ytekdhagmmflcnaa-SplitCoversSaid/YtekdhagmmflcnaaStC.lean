/- split.All's iterator, over any function that it yields to. -/
import Derived.Test.YtekdhagmmflcnaaStB
namespace Go.Proofs.Ytekdhagmmflcnaa
open Go.RowKit Go.Shelf
attribute [local go_sem] Oper.semAt_some

set_option maxRecDepth 100000 in
set_option maxHeartbeats 4000000 in
/-- split.All's iterator, over any function that it yields to. -/
theorem all1_any (w h m n : Int) (B g : Nat) (caps : Array Value) (W : World) (I : Nat → World → Prop) (D : World → Prop)
    (hrun : ∀ args w1, Sem.run Try.prog (callFunc g args) w1 = .ok (.enter g args) w1)
    (hbox : ∀ k w1, I k w1 → Boxed w1 (B + 0) 3 (.int .i64 w) ∧ Boxed w1 (B + 1) 3 (.int .i64 h) ∧ Boxed w1 (B + 2) 3 (.int .i64 m) ∧ Boxed w1 (B + 3) 3 (.int .i64 n))
    (hmore : ∀ k w1 w2, I k w1 → Below w1.heap.size w1 w2 → I k w2)
    (hcall : rightI w h m n = true → ∀ k w1, I k w1 → k < (m * n).toNat → Calls Try.prog g (#[.int .i64 (k : Nat), rectV w h m n k] ++ caps) w1 fun e w2 => (e = .returned (.bool true) ∧ I (k + 1) w2) ∨ (e = .returned (.bool false) ∧ D w2))
    (h0 : I 0 W) :
    Calls Try.prog 22 #[.func (.func g) #[] caps, .pointer (some ⟨B, 0, none⟩), .pointer (some ⟨B + 1, 0, none⟩), .pointer (some ⟨B + 2, 0, none⟩), .pointer (some ⟨B + 3, 0, none⟩)] W fun e w' =>
      e = .returned (.tuple #[]) ∧ (I (cntI w h m n) w' ∨ D w') := by
  have HC := Lib.hid hcall
  have HBX := Lib.hid hbox
  have HM := Lib.hid hmore
  clear hcall hbox hmore
  obtain ⟨b0, b1, b2, b3⟩ := HBX.out _ _ h0
  have k0 : W.cell? ⟨B, 0, none⟩ = some (.int .i64 w) := b0.cell
  have k1 := b1.cell
  have k2 := b2.cell
  have k3 := b3.cell
  clear b0 b1 b2 b3
  have H0 := Lib.hid h0
  clear h0
  cases hr : rightI w h m n
  · have hcn : cntI w h m n = 0 := by unfold cntI; rw [hr]; rfl
    rw [hcn]
    go_enter Try.func22, Try.ntmps22
    refine wp_scope_straight ?_
    go_wp2_with (go_at_call 9; refine (right_any _ _ _ _ _).mono ?_; rintro e w' ⟨rfl, rfl⟩; rw [hr])
    unfold Exit.noGoto
    refine bodyPost_ret (results_none rfl _ _ _) rfl ?_
    exact ⟨rfl, .inl H0.out⟩
  have hcn : cntI w h m n = (m * n).toNat := by unfold cntI; rw [if_pos hr]
  rw [hcn]
  obtain ⟨w0, w1, hh0, hh1, m0, m1, nn0, nn1⟩ := rightI_yes hr
  have hc0 : W.cell? ⟨B, 0, none⟩ = some (.int .i64 w) := k0
  have hc1 := k1
  have hc2 := k2
  have hc3 := k3
  clear k0 k1 k2 k3
  have hd : ∃ d : Nat, d = 8 := ⟨8, rfl⟩
  obtain ⟨d, hd⟩ := hd
  refine (callsIn_wide (n := d)).1 ?_
  refine callsIn_of_wp Try.func22 rfl trivial ?_ rfl
  simp only [Try.ntmps22, List.size_toArray, List.length_cons, List.length_nil, Nat.reduceAdd, Nat.reduceSub, Array.replicate_succ, Array.replicate_zero, List.push_toArray, List.append_toArray, List.nil_append, List.cons_append]
  refine wpIn_wide.2 (wp_scope_straight ((wpIn_wide (n := d)).1 ?_))
  have hwide : ∀ k, Fence.wide.fn k := fun _ => trivial
  have hdep : Fence.wide.depth = none := rfl
  have hrnd : Fence.wide.round = none := rfl
  gi_wp2_with (gi_at_call 9; refine (callsIn_wide.2 (right_any _ _ _ _ _)).mono ?_; rintro e w' ⟨rfl, rfl⟩; rw [hr])
  refine wpIn_label ?_
  gi_wp2_with fail
  gi_loopw [16] (fun i wr => ∃ j : Nat, (j : Int) ≤ n ∧ i = .int .i64 j ∧ Hid (I (j * m.toNat) wr)) (fun i _ => (n - intOf i).toNat)
  case atStart => exact ⟨0, by omega, rfl, Lib.hid (by simpa using H0.out)⟩
  case round =>
    obtain ⟨j, hj, rfl, hJj⟩ := hrel
    obtain ⟨z0, z1, z2, z3⟩ := HBX.out _ _ hJj.out
    obtain ⟨wo, rfl⟩ : ∃ wo : World, wo = wr := ⟨_, rfl⟩
    have k0 : wo.cell? ⟨B, 0, none⟩ = some (.int .i64 w) := z0.cell
    have k1 := z1.cell
    have k2 := z2.cell
    have k3 := z3.cell
    by_cases hlt : (j : Int) < n
    · gi_wp2_with fail
      gi_loopw [20] (fun i wr => ∃ i' : Nat, (i' : Int) ≤ m ∧ i = .int .i64 i' ∧ Hid (I (j * m.toNat + i') wr)) (fun i _ => (m - intOf i).toNat)
      case atStart => exact ⟨0, by omega, rfl, hJj⟩
      case round =>
        obtain ⟨i, hi, rfl, hJi⟩ := hrel
        obtain ⟨x0, x1, x2, x3⟩ := HBX.out _ _ hJi.out
        clear k0 k1 k2 k3
        have y0 := x0
        have k0 : ∀ o, (wr.alloc o).cell? ⟨B, 0, none⟩ = some (.int .i64 w) := fun o => (y0.alloc o).cell
        have y1 := x1
        have k1 : ∀ o, (wr.alloc o).cell? ⟨B + 1, 0, none⟩ = some (.int .i64 h) := fun o => (y1.alloc o).cell
        have y2 := x2
        have k2 : ∀ o, (wr.alloc o).cell? ⟨B + 2, 0, none⟩ = some (.int .i64 m) := fun o => (y2.alloc o).cell
        have y3 := x3
        have k3 : ∀ o, (wr.alloc o).cell? ⟨B + 3, 0, none⟩ = some (.int .i64 n) := fun o => (y3.alloc o).cell
        have hsz : B + 3 < wr.heap.size := y3.lt
        have Y1 := Lib.hid y1
        have Y2 := Lib.hid y2
        have Y3 := Lib.hid y3
        clear y0 y1 y2 y3
        by_cases hlti : (i : Int) < m
        · gi_wp2_with fail
          refine (callsIn_wide.2 (cut_any _ _ _ _ (by omega) (by omega) (by omega) (by omega) (by omega) (by omega))).mono ?_
          rintro e w1 ⟨rfl, q1, hw1⟩
          have b1 : w1.heap[wr.heap.size]? = some (.cells #[.int .i64 0, .int .i64 0, .int .i64 0, .int .i64 0] 28) := by rw [hw1]; exact heap_alloc_new wr _
          have cb1 : Below wr.heap.size wr w1 := by rw [hw1]; exact below_drewN ((Below.refl _ wr).alloc (Nat.le_refl _) _) _
          clear hw1 k0 k1 k2 k3
          have k1 := Boxed.cell ((cb1.block (B + 1) (by omega)).trans Y1.out)
          have k3 := Boxed.cell ((cb1.block (B + 3) (by omega)).trans Y3.out)
          have c0 : w1.cell? ⟨wr.heap.size, 0, none⟩ = some (.int .i64 0) := cell_of_row _ _ _ _ _ _ b1
          have c2 : w1.cell? ⟨wr.heap.size, 2, none⟩ = some (.int .i64 0) := cell_of_row _ _ _ _ _ _ b1
          have cf : ∀ o, w1.frozen? ⟨wr.heap.size, o, none⟩ = false := fun o => frozen_of_row _ _ _ _ _ b1
          gi_wp2_with fail
          refine (callsIn_wide.2 (cut_any _ _ _ _ (by omega) (by omega) (by omega) (by omega) (by omega) (by omega))).mono ?_
          rintro e w2 ⟨rfl, q2, hw2⟩
          have b2 : w2.heap[wr.heap.size]? = some (.cells #[.int .i64 (fromI w m i), .int .i64 0, .int .i64 (fromI w m (i + 1) - fromI w m i), .int .i64 0] 28) := by
            rw [hw2]; exact heap_setCell_same _ _ 2 _ _ _ (heap_setCell_same _ _ 0 _ _ _ b1)
          have cb2 : Below wr.heap.size wr w2 := by rw [hw2]; exact below_drewN ((cb1.setCell (p := ⟨wr.heap.size, 0, none⟩) (Nat.le_refl _) _).setCell (p := ⟨wr.heap.size, 2, none⟩) (Nat.le_refl _) _) _
          clear hw2 k1 k3 c0 c2 cf
          have hjm := prod_bd (s := (j : Int)) (i := m) (a := 63) (b := 64) (by omega) (by omega) (by omega) m1
          have k2 := Boxed.cell ((cb2.block (B + 2) (by omega)).trans Y2.out)
          have c0 : w2.cell? ⟨wr.heap.size, 0, none⟩ = some (.int .i64 (fromI w m i)) := cell_of_row _ _ _ _ _ _ b2
          have c1 : w2.cell? ⟨wr.heap.size, 1, none⟩ = some (.int .i64 0) := cell_of_row _ _ _ _ _ _ b2
          have c2 : w2.cell? ⟨wr.heap.size, 2, none⟩ = some (.int .i64 (fromI w m (i + 1) - fromI w m i)) := cell_of_row _ _ _ _ _ _ b2
          have c3 : w2.cell? ⟨wr.heap.size, 3, none⟩ = some (.int .i64 0) := cell_of_row _ _ _ _ _ _ b2
          have cf : ∀ o, w2.frozen? ⟨wr.heap.size, o, none⟩ = false := fun o => frozen_of_row _ _ _ _ _ b2
          have hb5 : Below wr.heap.size wr ((w2.setCell ⟨wr.heap.size, 1, none⟩ (.int .i64 (fromI h n j))).setCell ⟨wr.heap.size, 3, none⟩ (.int .i64 (fromI h n (j + 1) - fromI h n j))) :=
            (cb2.setCell (p := ⟨wr.heap.size, 1, none⟩) (Nat.le_refl _) _).setCell (p := ⟨wr.heap.size, 3, none⟩) (Nat.le_refl _) _
          have hc5 := HC.out hr (j * m.toNat + i) _ (HM.out _ _ _ hJi.out hb5) (idx_lt (by omega) hlti hlt)
          rw [rect_at hlti hlt, idx_at (by omega)] at hc5
          have HC5 := Lib.hid hc5
          clear hc5 hb5 b2 cb2
          gi_wp2_with (rw [hrun])
          refine (callsIn_wide.2 HC5.out).mono ?_
          clear c0 c1 c2 c3 cf k2 HC5
          rintro e W3 (⟨rfl, hJ3⟩ | ⟨rfl, hJx3⟩)
          · gi_wp2
            go_roundw
            case rel => exact ⟨i + 1, by omega, by go_num, Lib.hid hJ3⟩
            case measure => simp [intOf]; omega
          · gi_wp2
            rw [Exit.noGoto_normal]
            go_end0
            exact ⟨rfl, .inr hJx3⟩
        · clear k0 k1 k2 k3
          gi_wp2
          refine ⟨⟨j + 1, by omega, by go_num, Lib.hid ?_⟩, by simp [intOf]; omega⟩
          have e : (j + 1) * m.toNat = j * m.toNat + i := by rw [Nat.add_mul]; omega
          rw [e]; exact hJi.out
    · clear k0 k1 k2 k3
      have e : j * m.toNat = (m * n).toNat := by
        have e1 : ((j : Nat) : Int) = n := by omega
        rw [← e1]
        have := idx_at (m := m) (i := 0) (j := j) (by omega)
        rw [Int.mul_comm]
        omega
      have E := Lib.hid e
      clear e
      gi_wp2
      go_end0
      exact ⟨rfl, .inl (by rw [← E.out]; exact hJj.out)⟩
end Go.Proofs.Ytekdhagmmflcnaa
