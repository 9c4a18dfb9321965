/- The iterator split.All: its contract. -/
import Derived.RangeFuncNested
import Derived.RangeFuncBound
import Derived.RangeFuncCalls
import Derived.RangeFuncLeaves
import Derived.RangeFuncBox
import Derived.Shelf.Abstract
import Derived.Shelf.RegionOpen
import Derived.WalkKit
import Derived.OwnWalkIn
import Derived.TacticsInMore
import Derived.LoopNIn
import Derived.LoopIn
import Derived.Maps.AppendAt
import Derived.Test.YtekdhagmmflcnaaSp
namespace Go.Proofs.Ytekdhagmmflcnaa
open Go.RowKit Go.Shelf
attribute [local go_sem] Oper.semAt_some

/-- the k-th part's numbers -/
def colI (m : Int) (k : Nat) : Int := ((k % m.toNat : Nat) : Int)
def rowI (m n : Int) (k : Nat) : Int := ((k / m.toNat % n.toNat : Nat) : Int)
def rectV (w h m n : Int) (k : Nat) : Value := .agg #[.int .i64 (fromI w m (colI m k)), .int .i64 (fromI h n (rowI m n k)), .int .i64 (fromI w m (colI m k + 1) - fromI w m (colI m k)), .int .i64 (fromI h n (rowI m n k + 1) - fromI h n (rowI m n k))]

theorem below_grown {a b : World} (h : Below a.heap.size a b) : a.grownBy b none := ⟨h.os, h.tape, h.output, h.size, fun k hk _ => h.block k hk⟩

theorem rect_at {w h m n : Int} {i j : Nat} (hi : (i : Int) < m) (hj : (j : Int) < n) :
    rectV w h m n (j * m.toNat + i) = .agg #[.int .i64 (fromI w m i), .int .i64 (fromI h n j), .int .i64 (fromI w m (i + 1) - fromI w m i), .int .i64 (fromI h n (j + 1) - fromI h n j)] := by
  have h1 : (j * m.toNat + i) % m.toNat = i := by rw [Nat.mul_comm, Nat.mul_add_mod, Nat.mod_eq_of_lt (by omega)]
  have h2 : (j * m.toNat + i) / m.toNat = j := by rw [Nat.mul_comm, Nat.mul_add_div (by omega), Nat.div_eq_of_lt (by omega)]; omega
  have h3 : j % n.toNat = j := Nat.mod_eq_of_lt (by omega)
  unfold rectV colI rowI
  rw [h1, h2, h3]
theorem idx_at {m : Int} {i j : Nat} (hm : 0 ≤ m) : ((j * m.toNat + i : Nat) : Int) = (j : Int) * m + i := by
  have e : ((m.toNat : Nat) : Int) = m := by omega
  rw [Int.natCast_add, Int.natCast_mul, e]
theorem idx_lt {m n : Int} {i j : Nat} (hm : 0 ≤ m) (hi : (i : Int) < m) (hj : (j : Int) < n) : j * m.toNat + i < (m * n).toNat := by
  have h1 : ((j + 1 : Nat) : Int) ≤ n := by omega
  have h2 : m * ((j + 1 : Nat) : Int) ≤ m * n := Int.mul_le_mul_of_nonneg_left h1 hm
  have h3 : ((j * m.toNat + i : Nat) : Int) = (j : Int) * m + i := idx_at hm
  have h4 : m * ((j + 1 : Nat) : Int) = (j : Int) * m + m := by rw [Int.natCast_add, Int.mul_add, Int.mul_comm]; simp
  omega

/-- the four boxes from B on lie as they lay -/
def KB (B : Nat) (W W' : World) : Prop := ∀ k, B ≤ k → k < B + 4 → W'.heap[k]? = W.heap[k]?
theorem KB.refl (B : Nat) (W : World) : KB B W W := fun _ _ _ => rfl
theorem KB.trans {B : Nat} {a b c : World} (h : KB B a b) (k : KB B b c) : KB B a c := fun j h1 h2 => (k j h1 h2).trans (h j h1 h2)
theorem KB.of {B n : Nat} {a b : World} (h : Below n a b) (hn : B + 4 ≤ n) : KB B a b := fun k _ h2 => h.block k (by omega)
theorem KB.box {B j : Nat} {t : TypeId} {v : Value} {a b : World} (h : KB B a b) (hb : Boxed a (B + j) t v) (hj : j < 4) : Boxed b (B + j) t v := (h (B + j) (by omega) (by omega)).trans hb

set_option maxRecDepth 100000 in
set_option maxHeartbeats 2000000 in
theorem all1_in (d : Nat) (l B : Nat) (w h m n : Int) (hr : rightI w h m n = true)
    (J Jx : List Nat → World → Prop) (W : World) (hJ : AbidesFrom W.heap.size J)
    (hY : ∀ pre x W1, J pre W1 → pre.length < (m * n).toNat → YieldAt Fence.wide (d - 1) Try.prog l #[.int .i64 (x : Nat), rectV w h m n x] W1 fun e W' =>
      (e = .returned (.bool true) ∧ J (pre ++ [x]) W' ∧ KB B W1 W') ∨ (e = .returned (.bool false) ∧ Jx (pre ++ [x]) W'))
    (hx0 : Boxed W (B + 0) 3 (.int .i64 w)) (hx1 : Boxed W (B + 1) 3 (.int .i64 h)) (hx2 : Boxed W (B + 2) 3 (.int .i64 m)) (hx3 : Boxed W (B + 3) 3 (.int .i64 n)) (h0 : J [] W) :
    CallsIn Fence.wide d Try.prog 22 #[.func (.yield l) #[] #[], .pointer (some ⟨B, 0, none⟩), .pointer (some ⟨B + 1, 0, none⟩), .pointer (some ⟨B + 2, 0, none⟩), .pointer (some ⟨B + 3, 0, none⟩)] W fun e W' => (∃ v, e = .returned v) ∧
      ((∃ ys, ys = List.range (m * n).toNat ∧ J ys W') ∨ (∃ pre, (∃ k, k ≤ (m * n).toNat ∧ pre = List.range k) ∧ Jx pre W')) := by
  obtain ⟨w0, w1, hh0, hh1, m0, m1, nn0, nn1⟩ := rightI_yes hr
  have hc0 : W.cell? ⟨B, 0, none⟩ = some (.int .i64 w) := hx0.cell
  have hc1 := hx1.cell
  have hc2 := hx2.cell
  have hc3 := hx3.cell
  have X0 := Lib.hid hx0
  have X1 := Lib.hid hx1
  have X2 := Lib.hid hx2
  have X3 := Lib.hid hx3
  clear hx0 hx1 hx2 hx3
  have HY := Lib.hid hY
  clear hY
  refine callsIn_of_wp Try.func22 rfl trivial ?_ rfl
  simp only [Try.ntmps22, List.size_toArray, List.length_cons, List.length_nil, Nat.reduceAdd, Nat.reduceSub, Array.replicate_succ, Array.replicate_zero, List.push_toArray, List.append_toArray, List.nil_append, List.cons_append]
  refine wpIn_wide.2 (wp_scope_straight ((wpIn_wide (n := d)).1 ?_))
  have hwide : ∀ k, Fence.wide.fn k := fun _ => trivial
  have hdep : Fence.wide.depth = none := rfl
  have hrnd : Fence.wide.round = none := rfl
  gi_wp2_with (gi_at_call 9; refine (callsIn_wide.2 (right_any _ _ _ _ _)).mono ?_; rintro e w' ⟨rfl, rfl⟩)
  refine wpIn_label ?_
  gi_wp2_with fail
  gi_loopw [16] (fun i wr => ∃ j : Nat, (j : Int) ≤ n ∧ i = .int .i64 j ∧ J (List.range (j * m.toNat)) wr ∧ KB B W wr) (fun i _ => (n - intOf i).toNat)
  case atStart => exact ⟨0, by omega, rfl, by simpa using h0, KB.refl _ _⟩
  case round =>
    obtain ⟨j, hj, rfl, hJj, hbj⟩ := hrel
    obtain ⟨wo, rfl⟩ : ∃ wo : World, wo = wr := ⟨_, rfl⟩
    have k0 : wo.cell? ⟨B, 0, none⟩ = some (.int .i64 w) := (hbj.box X0.out (by omega)).cell
    have k1 := (hbj.box X1.out (by omega)).cell
    have k2 := (hbj.box X2.out (by omega)).cell
    have k3 := (hbj.box X3.out (by omega)).cell
    by_cases hlt : (j : Int) < n
    · gi_wp2_with fail
      gi_loopw [20] (fun i wr => ∃ i' : Nat, (i' : Int) ≤ m ∧ i = .int .i64 i' ∧ J (List.range (j * m.toNat + i')) wr ∧ KB B W wr) (fun i _ => (m - intOf i).toNat)
      case atStart => exact ⟨0, by omega, rfl, hJj, hbj⟩
      case round =>
        obtain ⟨i, hi, rfl, hJi, hbi⟩ := hrel
        clear k0 k1 k2 k3
        have y0 := hbi.box X0.out (by omega)
        have k0 : ∀ o, (wr.alloc o).cell? ⟨B, 0, none⟩ = some (.int .i64 w) := fun o => (y0.alloc o).cell
        have y1 := hbi.box X1.out (by omega)
        have k1 : ∀ o, (wr.alloc o).cell? ⟨B + 1, 0, none⟩ = some (.int .i64 h) := fun o => (y1.alloc o).cell
        have y2 := hbi.box X2.out (by omega)
        have k2 : ∀ o, (wr.alloc o).cell? ⟨B + 2, 0, none⟩ = some (.int .i64 m) := fun o => (y2.alloc o).cell
        have y3 := hbi.box X3.out (by omega)
        have k3 : ∀ o, (wr.alloc o).cell? ⟨B + 3, 0, none⟩ = some (.int .i64 n) := fun o => (y3.alloc o).cell
        have hsz : B + 3 < wr.heap.size := y3.lt
        have Y1 := Lib.hid y1
        have Y2 := Lib.hid y2
        have Y3 := Lib.hid y3
        clear y0 y1 y2 y3
        by_cases hlti : (i : Int) < m
        · gi_wp2_with fail
          refine (callsIn_wide.2 (cut_any _ _ _ _ (by omega) (by omega) (by omega) (by omega) (by omega) (by omega))).mono ?_
          rintro e w1 ⟨rfl, q1, hw1⟩
          have b1 : w1.heap[wr.heap.size]? = some (.cells #[.int .i64 0, .int .i64 0, .int .i64 0, .int .i64 0] 28) := by rw [hw1]; exact heap_alloc_new wr _
          have cb1 : Below wr.heap.size wr w1 := by rw [hw1]; exact below_drewN ((Below.refl _ wr).alloc (Nat.le_refl _) _) _
          clear hw1 k0 k1 k2 k3
          have k1 := Boxed.cell ((cb1.block (B + 1) (by omega)).trans Y1.out)
          have k3 := Boxed.cell ((cb1.block (B + 3) (by omega)).trans Y3.out)
          have c0 : w1.cell? ⟨wr.heap.size, 0, none⟩ = some (.int .i64 0) := cell_of_row _ _ _ _ _ _ b1
          have c2 : w1.cell? ⟨wr.heap.size, 2, none⟩ = some (.int .i64 0) := cell_of_row _ _ _ _ _ _ b1
          have cf : ∀ o, w1.frozen? ⟨wr.heap.size, o, none⟩ = false := fun o => frozen_of_row _ _ _ _ _ b1
          gi_wp2_with fail
          refine (callsIn_wide.2 (cut_any _ _ _ _ (by omega) (by omega) (by omega) (by omega) (by omega) (by omega))).mono ?_
          rintro e w2 ⟨rfl, q2, hw2⟩
          have b2 : w2.heap[wr.heap.size]? = some (.cells #[.int .i64 (fromI w m i), .int .i64 0, .int .i64 (fromI w m (i + 1) - fromI w m i), .int .i64 0] 28) := by
            rw [hw2]; exact heap_setCell_same _ _ 2 _ _ _ (heap_setCell_same _ _ 0 _ _ _ b1)
          have cb2 : Below wr.heap.size wr w2 := by rw [hw2]; exact below_drewN ((cb1.setCell (p := ⟨wr.heap.size, 0, none⟩) (Nat.le_refl _) _).setCell (p := ⟨wr.heap.size, 2, none⟩) (Nat.le_refl _) _) _
          clear hw2 k1 k3 c0 c2 cf
          have hjm := prod_bd (s := (j : Int)) (i := m) (a := 63) (b := 64) (by omega) (by omega) (by omega) m1
          have k2 := Boxed.cell ((cb2.block (B + 2) (by omega)).trans Y2.out)
          have c0 : w2.cell? ⟨wr.heap.size, 0, none⟩ = some (.int .i64 (fromI w m i)) := cell_of_row _ _ _ _ _ _ b2
          have c1 : w2.cell? ⟨wr.heap.size, 1, none⟩ = some (.int .i64 0) := cell_of_row _ _ _ _ _ _ b2
          have c2 : w2.cell? ⟨wr.heap.size, 2, none⟩ = some (.int .i64 (fromI w m (i + 1) - fromI w m i)) := cell_of_row _ _ _ _ _ _ b2
          have c3 : w2.cell? ⟨wr.heap.size, 3, none⟩ = some (.int .i64 0) := cell_of_row _ _ _ _ _ _ b2
          have cf : ∀ o, w2.frozen? ⟨wr.heap.size, o, none⟩ = false := fun o => frozen_of_row _ _ _ _ _ b2
          have hY5 : ∃ fn tmps assign body, (Instr.yield l #[.int .i64 ((j : Int) * m + i), .agg #[.int .i64 (fromI w m i), .int .i64 (fromI h n j), .int .i64 (fromI w m (i + 1) - fromI w m i), .int .i64 (fromI h n (j + 1) - fromI h n j)]]).run Try.prog ((w2.setCell ⟨wr.heap.size, 1, none⟩ (.int .i64 (fromI h n j))).setCell ⟨wr.heap.size, 3, none⟩ (.int .i64 (fromI h n (j + 1) - fromI h n j))) = .ok (.round l fn tmps assign body) ((w2.setCell ⟨wr.heap.size, 1, none⟩ (.int .i64 (fromI h n j))).setCell ⟨wr.heap.size, 3, none⟩ (.int .i64 (fromI h n (j + 1) - fromI h n j))) ∧
              RoundIn Fence.wide (d - 1) Try.prog l fn tmps assign body ((w2.setCell ⟨wr.heap.size, 1, none⟩ (.int .i64 (fromI h n j))).setCell ⟨wr.heap.size, 3, none⟩ (.int .i64 (fromI h n (j + 1) - fromI h n j))) fun e W' =>
                (e = .returned (.bool true) ∧ J (List.range (j * m.toNat + (i + 1))) W' ∧ KB B W W') ∨ (e = .returned (.bool false) ∧ Jx (List.range (j * m.toNat + (i + 1))) W') := by
            have hb5 : Below wr.heap.size wr ((w2.setCell ⟨wr.heap.size, 1, none⟩ (.int .i64 (fromI h n j))).setCell ⟨wr.heap.size, 3, none⟩ (.int .i64 (fromI h n (j + 1) - fromI h n j))) :=
              (cb2.setCell (p := ⟨wr.heap.size, 1, none⟩) (Nat.le_refl _) _).setCell (p := ⟨wr.heap.size, 3, none⟩) (Nat.le_refl _) _
            have := HY.out (List.range (j * m.toNat + i)) (j * m.toNat + i) _ (hJ _ _ _ none hJi (below_grown hb5) (fun r e => by cases e)) (by rw [List.length_range]; exact idx_lt (by omega) hlti hlt)
            rw [rect_at hlti hlt, idx_at (by omega)] at this
            obtain ⟨fn, tmps, assign, body, hy, hR⟩ := this
            refine ⟨fn, tmps, assign, body, hy, hR.mono ?_⟩
            rintro e W' (⟨h1, h2, h3⟩ | ⟨h1, h2⟩)
            · exact .inl ⟨h1, by rw [← Nat.add_assoc, List.range_succ]; exact h2, (hbi.trans (KB.of hb5 (by omega))).trans h3⟩
            · exact .inr ⟨h1, by rw [← Nat.add_assoc, List.range_succ]; exact h2⟩
          obtain ⟨fn, tmps, assign, body, hy, hR⟩ := hY5
          have HR := Lib.hid hR
          clear hR b2 cb2
          gi_wp2_with fail
          refine HR.out.mono ?_
          clear hy c0 c1 c2 c3 cf k2 HR
          rintro e W3 (⟨rfl, hJ3, hb3⟩ | ⟨rfl, hJx3⟩)
          · gi_wp2
            go_roundw
            case rel => exact ⟨i + 1, by omega, by go_num, hJ3, hb3⟩
            case measure => simp [intOf]; omega
          · gi_wp2
            rw [Exit.noGoto_normal]
            go_end0
            exact ⟨⟨_, rfl⟩, .inr ⟨_, ⟨j * m.toNat + (i + 1), idx_lt (by omega) hlti hlt, rfl⟩, hJx3⟩⟩
        · clear k0 k1 k2 k3
          gi_wp2
          refine ⟨⟨j + 1, by omega, by go_num, ?_, hbi⟩, by simp [intOf]; omega⟩
          have e : (j + 1) * m.toNat = j * m.toNat + i := by rw [Nat.add_mul]; omega
          rw [e]; exact hJi
    · clear k0 k1 k2 k3
      have e : j * m.toNat = (m * n).toNat := by
        have e1 : ((j : Nat) : Int) = n := by omega
        rw [← e1]
        have := idx_at (m := m) (i := 0) (j := j) (by omega)
        rw [Int.mul_comm]
        omega
      have E := Lib.hid e
      clear e
      gi_wp2
      go_end0
      exact ⟨⟨_, rfl⟩, .inl (by rw [← E.out]; exact hJj)⟩
end Go.Proofs.Ytekdhagmmflcnaa
