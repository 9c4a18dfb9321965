/- The law SplitCovers: its walk, over what an argument's reading gives. -/
import Derived.Test.YtekdhagmmflcnaaCvW
import Derived.Test.YtekdhagmmflcnaaOpen
import Derived.OpenShut
namespace Go.Proofs.Ytekdhagmmflcnaa.splitCovers
open Go.RowKit Go.ChangeShapes Go.WideShapes Go.ChangeAt
theorem u8_of {a : Int} (h : (Lit.int .u8 a).wf = true) : 0 ≤ a ∧ a < 256 := by
  have := bounds_u8 h
  omega
theorem walk2 (w : World) (p : Int) (hp : (Lit.int .u8 p).wf = true) (q : Int) (hq : (Lit.int .u8 q).wf = true) (s t : Int) (hs : (Lit.int .u8 s).wf = true) (ht : (Lit.int .u8 t).wf = true) :
    Calls Try.prog 5 #[.int .u8 p, .int .u8 q, .agg #[.int .u8 s, .int .u8 t]] w fun e w' => e = .returned (.bool true) ∧ Below w.heap.size w w' :=
  walk w p q s t (u8_of hp).1 (u8_of hp).2 (u8_of hq).1 (u8_of hq).2 (u8_of hs).1 (u8_of hs).2 (u8_of ht).1 (u8_of ht).2
end Go.Proofs.Ytekdhagmmflcnaa.splitCovers
