/- The law GopHolds: its walk, over what an argument's reading gives. -/
import Derived.Test.YtmnkbcigjbiniaaHoX
import Derived.Test.YtmnkbcigjbiniaaOpen
namespace Go.Proofs.Ytmnkbcigjbiniaa.gopHolds
open Go.RowKit
theorem walk (w : World) (n : Int) (hn : (Lit.int .u8 n).wf = true) (p b : Int) :
    Calls Try.prog 5 #[.int .u8 n, .agg #[.int .i64 p, .int .i64 b]] w fun e w' => e = .returned (.bool true) ∧ Below w.heap.size w w' := by
  obtain ⟨h0, h1⟩ := bounds_u8 hn
  cases hok : okA n p b with
  | false => exact walk_no w n p b h0 (by omega) hok
  | true =>
    obtain ⟨N, rfl⟩ : ∃ N : Nat, n = N := ⟨n.toNat, by omega⟩
    exact walk_yes w N p b (by omega) hok
end Go.Proofs.Ytmnkbcigjbiniaa.gopHolds
