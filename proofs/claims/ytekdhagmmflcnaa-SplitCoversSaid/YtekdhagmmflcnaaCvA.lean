/- The closure of SplitCovers. -/
import Derived.Test.YtekdhagmmflcnaaStA
import Derived.Deep.RegionHeld3
namespace Go.Proofs.Ytekdhagmmflcnaa
open Go.RowKit

theorem boxed_after {V V' : World} {B : Nat} {t : TypeId} {v : Value} (h : Boxed V B t v) (hb : Below V.heap.size V V') : Boxed V' B t v := (hb.block _ h.lt).trans h
theorem boxed_else {V : World} {B B' : Nat} {t : TypeId} {v : Value} (h : Boxed V B t v) (hne : B ≠ B') (o : Nat) (u : Value) : Boxed (V.setCell ⟨B', o, none⟩ u) B t v := (Below.heap_setCell V ⟨B', o, none⟩ u B hne).trans h

theorem of_is {w h m n x y i : Int} (hof : ofI w h m n x y = i) (W : World) :
    Calls Try.prog 11 #[.int .i64 w, .int .i64 h, .int .i64 m, .int .i64 n, .int .i64 x, .int .i64 y] W fun e w' => e = .returned (.int .i64 i) ∧ Below W.heap.size W w' := by
  rw [← hof]; exact of_any w h m n x y W

set_option maxHeartbeats 2000000 in
theorem cov1_any (x y a b m n i : Int) (bs ba bb bm bn bi g len cap : Nat) (w w1 : World) (hw1 : w1 = w.setCell ⟨g, (y * a + x).toNat, none⟩ (.int .i64 1))
    (hs : Boxed w bs 41 (.slice (some ⟨g, 0, none⟩) len cap)) (ha : Boxed w ba 3 (.int .i64 a)) (hb : Boxed w bb 3 (.int .i64 b)) (hm : Boxed w bm 3 (.int .i64 m)) (hn : Boxed w bn 3 (.int .i64 n)) (hi : Boxed w bi 3 (.int .i64 i))
    (hc : w.cell? ⟨g, (y * a + x).toNat, none⟩ = some (.int .i64 0)) (hf : w.frozen? ⟨g, (y * a + x).toNat, none⟩ = false)
    (hx0 : 0 ≤ x) (hx1 : x ≤ 3600) (hy0 : 0 ≤ y * a) (hy1 : y * a ≤ 3600) (hl : y * a + x < len) (hof : ofI a b m n x y = i)
    (hne : bs ≠ g ∧ ba ≠ g ∧ bb ≠ g ∧ bm ≠ g ∧ bn ≠ g ∧ bi ≠ g) :
    Calls Try.prog 17 #[.int .i64 x, .int .i64 y, .pointer (some ⟨bs, 0, none⟩), .pointer (some ⟨ba, 0, none⟩), .pointer (some ⟨bb, 0, none⟩), .pointer (some ⟨bm, 0, none⟩), .pointer (some ⟨bn, 0, none⟩), .pointer (some ⟨bi, 0, none⟩)] w fun e w' =>
      e = .returned (.bool true) ∧ Below w1.heap.size w1 w' := by
  obtain ⟨e1, e2, e3, e4, e5, e6⟩ := hne
  have k1 := hs.cell
  have k2 := ha.cell
  have hz : y * a + x ≤ 7200 := by omega
  have hnn : 0 ≤ y * a + x := by omega
  have q2 := (boxed_else ha e2 (y * a + x).toNat (.int .i64 1))
  have q3 := (boxed_else hb e3 (y * a + x).toNat (.int .i64 1))
  have q4 := (boxed_else hm e4 (y * a + x).toNat (.int .i64 1))
  have q5 := (boxed_else hn e5 (y * a + x).toNat (.int .i64 1))
  have q6 := (boxed_else hi e6 (y * a + x).toNat (.int .i64 1))
  have HOF := Lib.hid hof
  have HQ := Lib.hid (And.intro q2 (And.intro q3 (And.intro q4 (And.intro q5 q6))))
  have HW := Lib.hid hw1
  rw [← hw1] at HQ
  clear hw1 hs ha hb hm hn hi q2 q3 q4 q5 q6 hof e1 e2 e3 e4 e5 e6
  go_enter Try.func17, Try.ntmps17
  go_wp2
  obtain ⟨q2, q3, q4, q5, q6⟩ := HQ.out
  rw [← HW.out]
  clear HW
  have n2 := q2.cell
  have n3 := q3.cell
  have n4 := q4.cell
  have n5 := q5.cell
  have n6 := q6.cell
  have hB := Below.refl w1.heap.size w1
  clear q2 q3 q4 q5 q6 k1 k2 hc hf
  go_region_held3 (fun w' => w'.cell? ⟨ba, 0, none⟩ = some (.int .i64 a) ∧ w'.cell? ⟨bb, 0, none⟩ = some (.int .i64 b) ∧ w'.cell? ⟨bm, 0, none⟩ = some (.int .i64 m) ∧ w'.cell? ⟨bn, 0, none⟩ = some (.int .i64 n) ∧ w'.cell? ⟨bi, 0, none⟩ = some (.int .i64 i) ∧ Below w1.heap.size w1 w')
    (first
      | exact ⟨n2, n3, n4, n5, n6, hB⟩
      | exact ⟨n2, n3, n4, n5, n6, hB.drew⟩
      | go_keep)
    (first
      | (go_at_call 11; refine (of_is HOF.out _).mono ?_; rintro e w5 ⟨rfl, hb5⟩; have n2 := (hb5.cell (block_lt_of_cell n2)).trans n2; have n3 := (hb5.cell (block_lt_of_cell n3)).trans n3; have n4 := (hb5.cell (block_lt_of_cell n4)).trans n4; have n5 := (hb5.cell (block_lt_of_cell n5)).trans n5; have n6 := (hb5.cell (block_lt_of_cell n6)).trans n6; (first | have hB := below2 hB hb5 | have hB := below2 hB.drew hb5); clear hb5))
  go_wp2
  go_ret
  exact ⟨rfl, hB⟩
end Go.Proofs.Ytekdhagmmflcnaa
