/- split.Points' iterator, over any function that it yields to. -/
import Derived.Test.YtekdhagmmflcnaaFirst
import Derived.StillTailTactics
namespace Go.Proofs.Ytekdhagmmflcnaa
open Go.RowKit

/-- A rectangle in a block of its own. -/
def Rct (w : World) (b : Nat) (X Y W H : Int) : Prop := w.heap[b]? = some (.cells #[.int .i64 X, .int .i64 Y, .int .i64 W, .int .i64 H] 28 (0, 0))
theorem Rct.lt {w : World} {b : Nat} {X Y W H : Int} (h : Rct w b X Y W H) : b < w.heap.size := (Array.getElem?_eq_some_iff.1 h).1
theorem Rct.c0 {w : World} {b : Nat} {X Y W H : Int} (h : Rct w b X Y W H) : w.cell? ⟨b, 0, none⟩ = some (.int .i64 X) := cell_of_row _ _ 0 _ _ _ h
theorem Rct.c1 {w : World} {b : Nat} {X Y W H : Int} (h : Rct w b X Y W H) : w.cell? ⟨b, 1, none⟩ = some (.int .i64 Y) := cell_of_row _ _ 1 _ _ _ h
theorem Rct.c2 {w : World} {b : Nat} {X Y W H : Int} (h : Rct w b X Y W H) : w.cell? ⟨b, 2, none⟩ = some (.int .i64 W) := cell_of_row _ _ 2 _ _ _ h
theorem Rct.c3 {w : World} {b : Nat} {X Y W H : Int} (h : Rct w b X Y W H) : w.cell? ⟨b, 3, none⟩ = some (.int .i64 H) := cell_of_row _ _ 3 _ _ _ h

theorem sideI_yes {n : Int} (h : sideI n = true) : 1 ≤ n ∧ n ≤ 1024 := by
  unfold sideI at h
  simp only [Bool.and_eq_true, decide_eq_true_eq] at h
  exact h
theorem sideI_no {n : Int} (h : sideI n = false) : ¬ (1 ≤ n ∧ n ≤ 1024) := by
  unfold sideI at h
  simp only [Bool.and_eq_false_iff, decide_eq_false_iff_not] at h
  omega

set_option maxHeartbeats 2000000 in
theorem points1_any (X Y W H : Int) (rb g : Nat) (caps : Array Value) (w : World) (I : Nat → World → Prop) (D : World → Prop)
    (hrun : ∀ args w1, Sem.run Try.prog (callFunc g args) w1 = .ok (.enter g args) w1)
    (hbox : ∀ k w1, I k w1 → Rct w1 rb X Y W H)
    (hcall : sideI W = true → sideI H = true → ∀ (i j : Nat) w1, I (j * W.toNat + i) w1 → (i : Int) < W → (j : Int) < H → Calls Try.prog g (#[.int .i64 (wrap64 (X + i)), .int .i64 (wrap64 (Y + j))] ++ caps) w1 fun e w2 => (e = .returned (.bool true) ∧ I (j * W.toNat + i + 1) w2) ∨ (e = .returned (.bool false) ∧ D w2))
    (h0 : I 0 w) :
    Calls Try.prog 21 #[.func (.func g) #[] caps, .pointer (some ⟨rb, 0, none⟩)] w fun e w' => e = .returned (.tuple #[]) ∧ (((sideI W && sideI H) = true ∧ I (W.toNat * H.toNat) w') ∨ ((sideI W && sideI H) = false ∧ I 0 w') ∨ D w') := by
  have HC := Lib.hid hcall
  have HBX := Lib.hid hbox
  have k2 := (hbox 0 w h0).c2
  have k3 := (hbox 0 w h0).c3
  clear hcall hbox
  cases h1 : sideI W
  · go_enter Try.func21, Try.ntmps21
    go_wp2_with (go_at_call 18; refine (side_any _ _).mono ?_; rintro e w' ⟨rfl, rfl⟩; rw [h1])
    refine bodyPost_ret (results_none rfl _ _ _) rfl ?_
    exact ⟨rfl, .inr (.inl ⟨rfl, h0⟩)⟩
  cases h2 : sideI H
  · go_enter Try.func21, Try.ntmps21
    go_wp2_with (go_at_call 18; refine (side_any _ _).mono ?_; rintro e w' ⟨rfl, rfl⟩; first | rw [h1] | rw [h2])
    refine bodyPost_ret (results_none rfl _ _ _) rfl ?_
    exact ⟨rfl, .inr (.inl ⟨rfl, h0⟩)⟩
  obtain ⟨w0, w1⟩ := sideI_yes h1
  obtain ⟨hh0, hh1⟩ := sideI_yes h2
  have H0 := Lib.hid h0
  clear h0
  go_enter Try.func21, Try.ntmps21
  go_wp2_with (go_at_call 18; refine (side_any _ _).mono ?_; rintro e w' ⟨rfl, rfl⟩; first | rw [h1] | rw [h2])
  clear k2 k3
  go_loopw [17] (fun i wr => ∃ j : Nat, (j : Int) ≤ H ∧ i = .int .i64 j ∧ Hid (I (j * W.toNat) wr)) (fun i _ => (H - intOf i).toNat)
  case atStart => exact ⟨0, by omega, rfl, Lib.hid (by simpa using H0.out)⟩
  case round =>
    obtain ⟨j, hj, rfl, hJ⟩ := hrel
    have k2 := (HBX.out _ _ hJ.out).c2
    by_cases hlt : (j : Int) < H
    · go_wp2
      go_loopw [22] (fun i wr => ∃ i' : Nat, (i' : Int) ≤ W ∧ i = .int .i64 i' ∧ Hid (I (j * W.toNat + i') wr)) (fun i _ => (W - intOf i).toNat)
      case atStart => exact ⟨0, by omega, rfl, hJ⟩
      case round =>
        clear k2
        obtain ⟨i, hi, rfl, hI⟩ := hrel
        by_cases hlti : (i : Int) < W
        · have k0 := (HBX.out _ _ hI.out).c0
          have k1 := (HBX.out _ _ hI.out).c1
          have HC5 := Lib.hid (HC.out h1 h2 i j _ hI.out hlti hlt)
          go_wp2_with (rw [hrun])
          refine HC5.out.mono ?_
          clear k0 k1 HC5
          rintro e w2 (⟨rfl, hI2⟩ | ⟨rfl, hD⟩)
          · go_wp2
            go_roundw
            case rel => exact ⟨i + 1, by omega, by go_num, Lib.hid hI2⟩
            case measure => simp [intOf]; omega
          · go_wp2
            refine bodyPost_ret (results_none rfl _ _ _) rfl ?_
            exact ⟨rfl, .inr (.inr hD)⟩
        · go_wp2
          refine ⟨⟨j + 1, by omega, by go_num, Lib.hid ?_⟩, by simp [intOf]; omega⟩
          have e : (j + 1) * W.toNat = j * W.toNat + i := by rw [Nat.add_mul]; omega
          rw [e]; exact hI.out
    · clear k2
      have e : j = H.toNat := by omega
      have E := Lib.hid e
      clear e
      go_wp2
      go_end0
      refine ⟨rfl, .inl ?_⟩
      rw [Nat.mul_comm, ← E.out]; exact hJ.out
end Go.Proofs.Ytekdhagmmflcnaa
