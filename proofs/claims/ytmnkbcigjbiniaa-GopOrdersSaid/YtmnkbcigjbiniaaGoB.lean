/- The document's Same, over two shots that are the same. -/
import Derived.Test.YtmnkbcigjbiniaaGoA
namespace Go.Proofs.Ytmnkbcigjbiniaa
open Go.RowKit

theorem RefsAt.cells {w : World} {v : Value} {l : List Int} (h : RefsAt w v l) : ∃ A c g, v = .slice A l.length c ∧ (l = [] ∨ A = some ⟨g, 0, none⟩) ∧ ∀ j (hj : j < l.length), w.cell? ⟨g, j, none⟩ = some (.int .i64 l[j]) := by
  rcases h with ⟨rfl, rfl⟩ | ⟨_, g, rfl, hb⟩
  · exact ⟨none, 0, 0, rfl, .inl rfl, fun j hj => by simp at hj⟩
  · refine ⟨_, _, g, rfl, .inr rfl, fun j hj => ?_⟩
    rw [cell_of_row _ _ _ _ _ _ hb]
    simp [hj]
set_option maxRecDepth 20000 in
set_option maxHeartbeats 2000000 in
theorem same_yes (s : Sh) (v1 v2 : Value) (w : World) (h1 : RefsAt w v1 s.refs) (h2 : RefsAt w v2 s.refs) (hl : s.refs.length ≤ 1000) :
    Calls Try.prog 14 #[shV s v1, shV s v2] w fun e w' => e = .returned (.bool true) ∧ Below w.heap.size w w' := by
  obtain ⟨num, l, kept, ret⟩ := s
  unfold shV
  dsimp only at *
  have hl' : (l.length : Int) ≤ 1000 := by omega
  obtain ⟨A1, c1, g1, rfl, hA1, hc1⟩ := h1.cells
  obtain ⟨A2, c2, g2, rfl, hA2, hc2⟩ := h2.cells
  have HA := Lib.hid (And.intro hA1 hA2)
  have HC1 := Lib.hid hc1
  have HC2 := Lib.hid hc2
  clear hA1 hA2 hc1 hc2 h1 h2
  have HB := Lib.hid (((Below.refl w.heap.size w).alloc (Nat.le_refl _) (.cells #[.int .i64 num, .slice A1 l.length c1, .bool kept, .int .i64 ret] 32)).alloc (by simp) (.cells #[.int .i64 num, .slice A2 l.length c2, .bool kept, .int .i64 ret] 32))
  go_enter Try.func14, Try.ntmps14
  go_wp2_with fail
  go_loopw [37] (fun i wr => ∃ (j : Nat), j ≤ l.length ∧ i = .int .i64 j ∧ Hid (Below ((w.alloc (.cells #[.int .i64 num, .slice A1 l.length c1, .bool kept, .int .i64 ret] 32)).alloc (.cells #[.int .i64 num, .slice A2 l.length c2, .bool kept, .int .i64 ret] 32)).heap.size ((w.alloc (.cells #[.int .i64 num, .slice A1 l.length c1, .bool kept, .int .i64 ret] 32)).alloc (.cells #[.int .i64 num, .slice A2 l.length c2, .bool kept, .int .i64 ret] 32)) wr)) (fun i _ => (l.length - intOf i).toNat)
  case atStart => exact ⟨0, by omega, rfl, Lib.hid (Below.refl _ _)⟩
  case round =>
    obtain ⟨j, hj, rfl, hB⟩ := hrel
    have b1 := heap_alloc_new w (.cells #[.int .i64 num, .slice A1 l.length c1, .bool kept, .int .i64 ret] 32)
    have b1' := block_later b1 ((Below.refl _ (w.alloc (.cells #[.int .i64 num, .slice A1 l.length c1, .bool kept, .int .i64 ret] 32))).alloc (Nat.le_refl _) (.cells #[.int .i64 num, .slice A2 l.length c2, .bool kept, .int .i64 ret] 32))
    have b2 := heap_alloc_new (w.alloc (.cells #[.int .i64 num, .slice A1 l.length c1, .bool kept, .int .i64 ret] 32)) (.cells #[.int .i64 num, .slice A2 l.length c2, .bool kept, .int .i64 ret] 32)
    rw [World.size_alloc] at b2
    have x1 : wr.cell? ⟨w.heap.size, 1, none⟩ = some (.slice A1 l.length c1) := cell_of_row _ _ 1 _ _ _ (block_later b1' hB.out)
    have x2 : wr.cell? ⟨w.heap.size + 1, 1, none⟩ = some (.slice A2 l.length c2) := cell_of_row _ _ 1 _ _ _ (block_later b2 hB.out)
    clear b1 b1' b2
    by_cases hlt : j < l.length
    · obtain ⟨rfl, rfl⟩ : A1 = some ⟨g1, 0, none⟩ ∧ A2 = some ⟨g2, 0, none⟩ := by
        have := HA.out
        refine ⟨this.1.resolve_left (fun e => ?_), this.2.resolve_left (fun e => ?_)⟩ <;> (rw [e] at hlt; simp at hlt)
      have y1 : wr.cell? ⟨g1, j, none⟩ = some (.int .i64 l[j]) := cell_later (HC1.out j hlt) (HB.out.trans (hB.out.mono HB.out.size) |>.mono (Nat.le_refl _))
      have y2 : wr.cell? ⟨g2, j, none⟩ = some (.int .i64 l[j]) := cell_later (HC2.out j hlt) (HB.out.trans (hB.out.mono HB.out.size) |>.mono (Nat.le_refl _))
      obtain ⟨r, hr⟩ : ∃ r, r = l[j] := ⟨_, rfl⟩
      rw [← hr] at y1 y2
      have i1 : (0 : Int) ≤ (j : Int) := by omega
      have i2 : (j : Int) < (l.length : Int) := by omega
      clear hr
      go_wp2_with fail
      go_quiet (fail)
      go_wp2_with fail
      go_roundw
      case rel => exact ⟨j + 1, by omega, by go_num, Lib.hid (hB.out.trans ⟨rfl, rfl, rfl, Nat.le_refl _, fun _ _ => rfl⟩)⟩
      case measure => simp [intOf]; omega
    · obtain rfl : j = l.length := by omega
      go_wp2
      go_ret
      exact ⟨rfl, HB.out.trans (hB.out.mono HB.out.size)⟩
end Go.Proofs.Ytmnkbcigjbiniaa
