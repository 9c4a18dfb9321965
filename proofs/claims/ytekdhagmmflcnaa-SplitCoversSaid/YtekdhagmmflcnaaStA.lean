/- The closures of SplitStops. -/
import Derived.Test.YtekdhagmmflcnaaPts
import Derived.Laws.StructEq
namespace Go.Proofs.Ytekdhagmmflcnaa
open Go.RowKit

set_option maxHeartbeats 400000 in
theorem points_any (X Y W H : Int) (w : World) : Calls Try.prog 13 #[.agg #[.int .i64 X, .int .i64 Y, .int .i64 W, .int .i64 H]] w fun e w' =>
    e = .returned (.func (.func 21) #[] #[.pointer (some ⟨w.heap.size, 0, none⟩)]) ∧ w' = w.alloc (.cells #[.int .i64 X, .int .i64 Y, .int .i64 W, .int .i64 H] 28) := by
  go_enter Try.func13, Try.ntmps13
  go_wp2
  go_ret
  exact ⟨rfl, rfl⟩

set_option maxHeartbeats 2000000 in
theorem stops1_any (x y X Y W H k all stop : Int) (bo bn ba br bs : Nat) (w : World) (ho : Boxed w bo 4 (.bool true)) (hn : Boxed w bn 3 (.int .i64 k)) (ha : Boxed w ba 3 (.int .i64 all)) (hr : Rct w br X Y W H) (hs : Boxed w bs 3 (.int .i64 stop))
    (hW : 1 ≤ W) (hk : 0 ≤ k) (hka : k < all) (hall : all ≤ 1048576) (hx : (IntKind.i64.wrap (x - X) == k.tmod W) = true) (hy : (IntKind.i64.wrap (y - Y) == IntKind.i64.wrap (k.tdiv W)) = true) (hne : bo ≠ bn ∧ bs ≠ bn ∧ bs ≠ bo) :
    Calls Try.prog 14 #[.int .i64 x, .int .i64 y, .pointer (some ⟨bo, 0, none⟩), .pointer (some ⟨bn, 0, none⟩), .pointer (some ⟨ba, 0, none⟩), .pointer (some ⟨br, 0, none⟩), .pointer (some ⟨bs, 0, none⟩)] w fun e w' =>
      e = .returned (.bool (k + 1 != stop)) ∧ w' = ((w.setCell ⟨bo, 0, none⟩ (.bool true)).setCell ⟨bn, 0, none⟩ (.int .i64 (k + 1))).drewN 1 := by
  have k1 := ho.cell
  have k1f := ho.frozen
  have k2 := hn.cell
  have k2f := hn.frozen
  have k3 := ha.cell
  have k4 := hr.c0
  have k5 := hr.c1
  have k6 := hr.c2
  have k7 := hs.cell
  obtain ⟨n1, n2, n3⟩ := hne
  have n1' := n1.symm
  have hW0 : ¬ W = 0 := by omega
  have HX := Lib.hid hx
  have HY := Lib.hid hy
  clear hx hy
  clear ho hn ha hr hs
  go_enter Try.func14, Try.ntmps14
  go_wp2
  go_still_tail 28, (by kernel_rfl)
  simp only [HX.out]
  repeat still_step
  simp only [HY.out]
  try refine wpStill_nil ?_
  go_wp2
  go_ret
  exact ⟨rfl, rfl⟩
end Go.Proofs.Ytekdhagmmflcnaa
