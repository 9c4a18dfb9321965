/- GopOrders' closure. -/
import Derived.Test.YtmnkbcigjbiniaaGoB
import Derived.Test.YtmnkbcigjbiniaaGoC
import Derived.Test.YtmnkbcigjbiniaaFst
import Derived.Deep.RegionHeldLaw
namespace Go.Proofs.Ytmnkbcigjbiniaa
open Go.RowKit

theorem refs_le {n p b : Int} {s : Sh} (h : s ∈ shots n p b) : s.refs.length ≤ 1000 := by
  unfold shots at h
  obtain ⟨k, _, hk⟩ := List.mem_flatMap.1 h
  unfold groupG at hk
  rcases List.mem_cons.1 hk with rfl | hk
  · unfold anchorSh
    dsimp only
    split <;> simp
  · obtain ⟨j, _, rfl⟩ := List.mem_map.1 hk
    simp [btwSh]
/-- where the telling stands -/
structure TI (W1 : World) (m : Nat) (W : World) : Prop where
  below : Below W1.heap.size W1 W
  k : W.heap[W1.heap.size]? = some (.cells #[.int .i64 (m : Nat)] 3 (0, 0))
  ok : W.heap[W1.heap.size + 1]? = some (.cells #[.bool true] 4 (0, 0))
theorem TI.later {W1 W W' : World} {m : Nat} (h : TI W1 m W) (hb : Below W.heap.size W W') : TI W1 m W' :=
  ⟨h.below.trans (hb.mono h.below.size), block_later h.k hb, block_later h.ok hb⟩
set_option maxRecDepth 20000 in
set_option maxHeartbeats 2000000 in
theorem told_any {n p b stop : Int} {W1 : World} {wB stB : Nat} {A : Option Addr} {cap : Nat} {ys : List ShX} (hw : W1.heap[wB]? = some (.cells #[.slice A ys.length cap] 27 (0, 0))) (hst : W1.heap[stB]? = some (.cells #[.int .i64 stop] 3 (0, 0))) (hR : ShRow W1 A ys) (hG : ∀ y ∈ ys, ShG y W1) (hm : ys.map (·.1) = shots n p b)
    (W : World) (x : ShX) (m : Nat) (hT : TI W1 m W) (hs4 : W1.heap.size + 4 ≤ W.heap.size) (hx : ShG x W) (hk : (shots n p b)[m]? = some x.1) :
    Calls Try.prog 16 #[shV x.1 x.2, .pointer (some ⟨W1.heap.size + 1, 0, none⟩), .pointer (some ⟨W1.heap.size, 0, none⟩), .pointer (some ⟨wB, 0, none⟩), .pointer (some ⟨stB, 0, none⟩)] W fun e W' => e = .returned (.bool ((m : Int) + 1 != stop)) ∧ TI W1 (m + 1) W' ∧ KP (W1.heap.size + 2) W W' := by
  have hlen : m < ys.length := by
    have h1 := (List.getElem?_eq_some_iff.1 hk).1
    have h2 := congrArg List.length hm
    simp at h2
    omega
  have hys9 : ys.length ≤ 1000 := by
    have h2 := congrArg List.length hm
    have h3 := shots_le n p b
    simp at h2
    omega
  have hym : ys[m].1 = x.1 := by
    have h1 : (ys.map (·.1))[m]? = some ys[m].1 := by simp [hlen]
    rw [hm, hk] at h1
    exact (Option.some.inj h1).symm
  have hrl := refs_le (List.mem_of_getElem? hk)
  obtain ⟨g, Bv, mv, cv, rfl, e0, e1, e2, e3, e4⟩ := hR.at hlen
  have hyG := hG _ (List.getElem_mem hlen)
  unfold ShG at hyG hx
  rw [hym] at hyG e0 e2 e3
  rw [e4] at hyG
  obtain ⟨⟨num, l, kept, ret⟩, v⟩ := x
  dsimp only at *
  obtain ⟨Ax, mx, cx, rfl⟩ := refs_form hx
  obtain ⟨K0, hK0⟩ : ∃ K, K = W1.heap.size := ⟨_, rfl⟩
  have hwlt := block_lt hw
  have hslt := block_lt hst
  have hglt : g < W1.heap.size := block_lt_of_cell e0
  have hkW := hT.k
  have hoW := hT.ok
  have hKsz := block_lt hoW
  have hbW := hT.below
  have HSB := Lib.hid (heap_alloc_new W (.cells #[.int .i64 num, .slice Ax mx cx, .bool kept, .int .i64 ret] 32))
  have hal := (Below.refl W.heap.size W).alloc (Nat.le_refl _) (.cells #[.int .i64 num, .slice Ax mx cx, .bool kept, .int .i64 ret] 32)
  obtain ⟨W2, hW2⟩ : ∃ W2, W2 = W.alloc (.cells #[.int .i64 num, .slice Ax mx cx, .bool kept, .int .i64 ret] 32) := ⟨_, rfl⟩
  rw [← hW2] at HSB hal
  have hsz2 : W2.heap.size = W.heap.size + 1 := by rw [hW2]; simp
  have hSAME : ∀ V : World, V.heap[K0 + 1]? = some (.cells #[.bool true] 4 (0, 0)) → (∀ i, i < W2.heap.size → i ≠ K0 + 1 → V.heap[i]? = W2.heap[i]?) →
      V.cell? ⟨K0 + 1, 0, none⟩ = some (.bool true) ∧ V.frozen? ⟨K0 + 1, 0, none⟩ = false ∧ V.cell? ⟨K0, 0, none⟩ = some (.int .i64 (m : Nat)) ∧ V.cell? ⟨wB, 0, none⟩ = some (.slice (some ⟨g, 0, none⟩) ys.length cap) ∧
      V.cell? ⟨W.heap.size, 0, none⟩ = some (.int .i64 num) ∧ V.cell? ⟨W.heap.size, 1, none⟩ = some (.slice Ax mx cx) ∧ V.cell? ⟨W.heap.size, 2, none⟩ = some (.bool kept) ∧ V.cell? ⟨W.heap.size, 3, none⟩ = some (.int .i64 ret) ∧
      V.cell? ⟨g, m * 4, none⟩ = some (.int .i64 num) ∧ V.cell? ⟨g, m * 4 + 1, none⟩ = some (.slice Bv mv cv) ∧ V.cell? ⟨g, m * 4 + 2, none⟩ = some (.bool kept) ∧ V.cell? ⟨g, m * 4 + 3, none⟩ = some (.int .i64 ret) := fun V hV hs => by
    have old : ∀ i, i < W1.heap.size → V.heap[i]? = W1.heap[i]? := fun i hi => ((hs i (by omega) (by omega)).trans (hal.block i (by omega))).trans (hbW.block i hi)
    have og : ∀ o u, W1.cell? ⟨g, o, none⟩ = some u → V.cell? ⟨g, o, none⟩ = some u := fun o u h => (World.cell?_of_block (a := ⟨g, o, none⟩) (old g hglt)).trans h
    have hbx := (hs W.heap.size (by omega) (by omega)).trans HSB.out
    have hkx : V.heap[K0]? = some (.cells #[.int .i64 (m : Nat)] 3 (0, 0)) := ((hs K0 (by omega) (by omega)).trans (hal.block K0 (by omega))).trans (by rw [hK0]; exact hkW)
    exact ⟨cell_of_row _ _ 0 _ _ _ hV, frozen_of_row _ _ 0 _ _ hV, cell_of_row _ _ 0 _ _ _ hkx, cell_of_row _ _ 0 _ _ _ ((old wB hwlt).trans hw), cell_of_row _ _ 0 _ _ _ hbx, cell_of_row _ _ 1 _ _ _ hbx, cell_of_row _ _ 2 _ _ _ hbx, cell_of_row _ _ 3 _ _ _ hbx, og _ _ e0, og _ _ e1, og _ _ e2, og _ _ e3⟩
  have HSAME := Lib.hid hSAME
  have hok2 : W2.heap[K0 + 1]? = some (.cells #[.bool true] 4 (0, 0)) := by rw [hK0]; exact block_later hoW hal
  have HOK2 := Lib.hid hok2
  have HX := Lib.hid (show ∀ V, Below W2.heap.size W2 V → RefsAt V (.slice Ax mx cx) l ∧ RefsAt V (.slice Bv mv cv) l from fun V hV => ⟨(RefsAt.below hx hal).below hV, (RefsAt.below hyG ((hbW.trans (hal.mono hbW.size)))).below hV⟩)
  have HT := Lib.hid hT
  have HAL := Lib.hid hal
  have HST := Lib.hid (And.intro hst (And.intro hslt hK0))
  have HS4 := Lib.hid hs4
  clear hs4
  have i1 : (0 : Int) ≤ (m : Int) := by omega
  have i2 : (m : Int) < (ys.length : Int) := by omega
  have i3 : (ys.length : Int) ≤ 1000 := by omega
  have HSZ := Lib.hid (And.intro hsz2 hKsz)
  have HW2 := Lib.hid hW2
  unfold shV
  dsimp only
  rw [← hK0]
  clear hw hst hR hG hm hT hx hk hlen hys9 hym e0 e1 e2 e3 e4 hyG hK0 hwlt hslt hglt hkW hoW hKsz hbW hal hW2 hsz2 hSAME hok2
  go_enter Try.func16, Try.ntmps16
  go_upto_region 1 with fail
  rw [← HW2.out]
  obtain ⟨S1, hS1⟩ : ∃ S1, S1 = W.heap.size := ⟨_, rfl⟩
  rw [← hS1]
  have HS1 := Lib.hid hS1
  rw [← hS1] at HSAME
  clear hS1
  have hbw := Below.refl W2.heap.size W2
  have hok := HOK2.out
  go_region_held_law (fun V => V.cell? ⟨K0 + 1, 0, none⟩ = some (.bool true) ∧ V.frozen? ⟨K0 + 1, 0, none⟩ = false ∧ V.cell? ⟨K0, 0, none⟩ = some (.int .i64 (m : Nat)) ∧ V.cell? ⟨wB, 0, none⟩ = some (.slice (some ⟨g, 0, none⟩) ys.length cap) ∧
      V.cell? ⟨S1, 0, none⟩ = some (.int .i64 num) ∧ V.cell? ⟨S1, 1, none⟩ = some (.slice Ax mx cx) ∧ V.cell? ⟨S1, 2, none⟩ = some (.bool kept) ∧ V.cell? ⟨S1, 3, none⟩ = some (.int .i64 ret) ∧
      V.cell? ⟨g, m * 4, none⟩ = some (.int .i64 num) ∧ V.cell? ⟨g, m * 4 + 1, none⟩ = some (.slice Bv mv cv) ∧ V.cell? ⟨g, m * 4 + 2, none⟩ = some (.bool kept) ∧ V.cell? ⟨g, m * 4 + 3, none⟩ = some (.int .i64 ret))
    (first
      | exact HSAME.out _ hok (fun _ _ _ => rfl)
      | exact HSAME.out _ (block_later hok hbw) (fun i hi _ => hbw.block i hi)
      | exact HSAME.out _ (heap_setCell_same _ _ 0 _ _ _ (block_later hok hbw)) (fun i hi hne => (heap_setCell_other _ _ _ _ hne).trans (hbw.block i hi)))
    (first
      | (go_at_call 14; refine (same_yes ⟨num, l, kept, ret⟩ _ _ _ (HX.out _ hbw.drew).1 (HX.out _ hbw.drew).2 hrl).mono ?_; rintro e w3 ⟨rfl, hb3⟩; have hbw := below_up hbw.drew hb3))
  have hx := block_later hok hbw
  have HK4 := Lib.hid (show ∀ i, i < W.heap.size → i ≠ K0 + 1 → (w3.setCell ⟨K0 + 1, 0, none⟩ (.bool true)).heap[i]? = W.heap[i]? from fun i hi hne => ((heap_setCell_other _ _ _ _ hne).trans (hbw.block i (by have := HSZ.out; omega))).trans (HAL.out.block i hi))
  have HO4 := Lib.hid (heap_setCell_same _ _ 0 _ _ (.bool true) hx)
  have HB4 := Lib.hid (show Below K0 W1 (w3.setCell ⟨K0 + 1, 0, none⟩ (.bool true)) from by
    have h1 := HT.out.below
    rw [← HST.out.2.2] at h1
    have h2 := HAL.out
    have hz : K0 ≤ W.heap.size := by have := HS4.out; have := HST.out.2.2; omega
    exact ((h1.trans (h2.mono hz)).trans (hbw.mono (Nat.le_trans hz h2.size))).setCell (p := ⟨K0 + 1, 0, none⟩) (Nat.le_succ _) _)
  have HZ4 := Lib.hid (show W.heap.size ≤ (w3.setCell ⟨K0 + 1, 0, none⟩ (.bool true)).heap.size by have := hbw.size; have := HAL.out.size; simp; omega)
  obtain ⟨W4, hW4⟩ : ∃ W4, W4 = w3.setCell ⟨K0 + 1, 0, none⟩ (.bool true) := ⟨_, rfl⟩
  rw [← hW4] at HK4 HO4 HB4 HZ4 ⊢
  have hk4 : W4.heap[K0]? = some (.cells #[.int .i64 (m : Nat)] 3 (0, 0)) := by
    have h1 := HT.out.k
    rw [← HST.out.2.2] at h1
    exact (HK4.out K0 (by have := HS4.out; have := HST.out.2.2; omega) (by omega)).trans h1
  have hs4 : W4.heap[stB]? = some (.cells #[.int .i64 stop] 3 (0, 0)) := by
    have h1 := (HB4.out.block stB (by have := HST.out; omega)).trans HST.out.1
    exact h1
  have k4 : W4.cell? ⟨K0, 0, none⟩ = some (.int .i64 (m : Nat)) := cell_of_row _ _ 0 _ _ _ hk4
  have f4 : W4.frozen? ⟨K0, 0, none⟩ = false := frozen_of_row _ _ 0 _ _ hk4
  have hk5 := heap_setCell_same _ _ 0 _ _ (.int .i64 ((m : Int) + 1)) hk4
  have k5 : (W4.setCell ⟨K0, 0, none⟩ (.int .i64 ((m : Int) + 1))).cell? ⟨K0, 0, none⟩ = some (.int .i64 ((m : Int) + 1)) := cell_of_row _ _ 0 _ _ _ hk5
  have s5 : (W4.setCell ⟨K0, 0, none⟩ (.int .i64 ((m : Int) + 1))).cell? ⟨stB, 0, none⟩ = some (.int .i64 stop) := cell_of_row _ _ 0 _ _ _ ((heap_setCell_other _ _ _ _ (by show stB ≠ K0; have := HST.out; omega)).trans hs4)
  have HK5 := Lib.hid hk5
  clear hk5 hk4 hs4 hx hW4 hbw hok
  go_wp2
  go_ret
  refine ⟨rfl, ⟨?_, ?_, ?_⟩, ?_, ?_, ?_⟩
  · rw [← HST.out.2.2]; exact HB4.out.setCell (p := ⟨K0, 0, none⟩) (Nat.le_refl _) _
  · rw [← HST.out.2.2]; exact HK5.out
  · rw [← HST.out.2.2]; exact (heap_setCell_other _ _ _ _ (by show K0 + 1 ≠ K0; omega)).trans HO4.out
  · simp; exact HZ4.out
  · intro k h1 h2
    have := HS4.out
    have := HST.out.2.2
    exact (heap_setCell_other _ _ _ _ (by show k ≠ K0; omega)).trans (HK4.out k (by omega) (by omega))
  · intro k cs fr h1 h2
    have := HST.out.2.2
    exact (heap_setCell_other _ _ _ _ (by show k ≠ K0; omega)).trans ((HK4.out k (block_lt h2) (by omega)).trans h2)
end Go.Proofs.Ytmnkbcigjbiniaa
