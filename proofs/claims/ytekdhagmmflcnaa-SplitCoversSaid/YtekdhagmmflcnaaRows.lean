/-
  No cell of these rows narrows 'for every input' (looked for: loops, veiled, ifaces, maps, wideKeys, modest, calm, conditions, laid).
  DERIVED. THE GIVEN ROWS OF THIS SEAT. 3 by the template 'for every input the law returns true; each argument reads behind the call as it read before'; 0 by the template 'total and deterministic' (their statements: YtekdhagmmflcnaaTotals.lean).
  GIVEN WITH THE SEED: the statements are not yours to turn. If you find one false, say at which input.
  Laid BY PROGRAM, IN A SANDBOX (cutbox-rows.mjs): the forced cells as the released guide's own fill.sh prints them over the translation 96baa21943831e58… (all of the seat's roots in one cut). By AI agents, Wed Nov 11 2026. No macro, syntax, notation, axiom, sorry.
-/
import Derived.Test.YtekdhagmmflcnaaChecked
import GoSem.Claim
import GoSem.ClaimJoined
import GoSem.ClaimMapViews
import Derived.JoinedTies
import Derived.KernelRfl
namespace Go.Proofs.Ytekdhagmmflcnaa
/- THE CELL 'sum', in the pinned program and in every row, IS THE sha256 OF THE DUMP (.gsa) THAT YtekdhagmmflcnaaProg.lean LOADS. Nothing in Lean hashes anything: it is a label: what it is worth is what the hold of that sum in a sandbox is worth. -/
noncomputable def Try.pinned : Pinned := { name := "ytekdhagmmflcnaa", sum := "96baa21943831e58ede12ebef7f6f2ea3c8c9709893907471a437a01a9df93db", checked := Try.checked }
namespace Rows
def none {H : Type} : Left H := { results := [], args := [] }

/-- 'shinglelaw12.SplitLies': WHATEVER THE INPUT: true; the input reads as it did. -/
def splitLiesSpec : ChangeSpec := { name := "splitLies", fn := fun _ => fun
  | [d1, d2, d3] => { results := [.lit (.bool true)], args := [d1, d2, d3] }
  | _ => none }
def splitLiesRow : OpenClaim := { program := "ytekdhagmmflcnaa", sum := "96baa21943831e58ede12ebef7f6f2ea3c8c9709893907471a437a01a9df93db", func := "shingle/shinglelaw12.SplitLies", spec := "splitLies", unfollowed := true, recurses := true, apart := false }
def SplitLiesSaid : Prop := splitLiesRow.holds Try.pinned (OpenSpec.ofChange splitLiesSpec)

/-- ITS FALSE NEIGHBOUR: 'it returns false'. Refute it at one input. -/
def splitLiesWrong : ChangeSpec := { name := "splitLies", fn := fun _ => fun
  | [d1, d2, d3] => { results := [.lit (.bool false)], args := [d1, d2, d3] }
  | _ => none }
def SplitLiesWrongFalsely : Prop := splitLiesRow.holds Try.pinned (OpenSpec.ofChange splitLiesWrong)

/-- 'shinglelaw12.SplitStops': WHATEVER THE INPUT: true; the input reads as it did. -/
def splitStopsSpec : ChangeSpec := { name := "splitStops", fn := fun _ => fun
  | [d1, d2, d3] => { results := [.lit (.bool true)], args := [d1, d2, d3] }
  | _ => none }
def splitStopsRow : OpenClaim := { program := "ytekdhagmmflcnaa", sum := "96baa21943831e58ede12ebef7f6f2ea3c8c9709893907471a437a01a9df93db", func := "shingle/shinglelaw12.SplitStops", spec := "splitStops", unfollowed := true, recurses := true, apart := false }
def SplitStopsSaid : Prop := splitStopsRow.holds Try.pinned (OpenSpec.ofChange splitStopsSpec)

/-- ITS FALSE NEIGHBOUR: 'it returns false'. Refute it at one input. -/
def splitStopsWrong : ChangeSpec := { name := "splitStops", fn := fun _ => fun
  | [d1, d2, d3] => { results := [.lit (.bool false)], args := [d1, d2, d3] }
  | _ => none }
def SplitStopsWrongFalsely : Prop := splitStopsRow.holds Try.pinned (OpenSpec.ofChange splitStopsWrong)

/-- 'shinglelaw12.SplitCovers': WHATEVER THE INPUT: true; the input reads as it did. -/
def splitCoversSpec : ChangeSpec := { name := "splitCovers", fn := fun _ => fun
  | [d1, d2, d3] => { results := [.lit (.bool true)], args := [d1, d2, d3] }
  | _ => none }
def splitCoversRow : OpenClaim := { program := "ytekdhagmmflcnaa", sum := "96baa21943831e58ede12ebef7f6f2ea3c8c9709893907471a437a01a9df93db", func := "shingle/shinglelaw12.SplitCovers", spec := "splitCovers", unfollowed := true, recurses := true, apart := false }
def SplitCoversSaid : Prop := splitCoversRow.holds Try.pinned (OpenSpec.ofChange splitCoversSpec)

/-- ITS FALSE NEIGHBOUR: 'it returns false'. Refute it at one input. -/
def splitCoversWrong : ChangeSpec := { name := "splitCovers", fn := fun _ => fun
  | [d1, d2, d3] => { results := [.lit (.bool false)], args := [d1, d2, d3] }
  | _ => none }
def SplitCoversWrongFalsely : Prop := splitCoversRow.holds Try.pinned (OpenSpec.ofChange splitCoversWrong)

/- THE SECOND FORM. 'bulk': how many values and letters a reading holds, each counted each time it is reached (what is shared counts as often as it is met; a slice's spare places count too). A statement '..UptoSaid' is the law's where the arguments, and the package variables that the reading takes, are together of bulk at most 1048576: NARROWER than '..Said'. Prove '..Said' where nothing that the law and all that it calls make is longer than what came in: it says more and counts as full. Else prove '..UptoSaid'. A law counts once. -/
mutual
def uptoBulk {H : Type} : DataW H → Nat
  | .lit (.string bytes) => bytes.length + 1
  | .lit _ => 1
  | .nil => 1
  | .ptr d => uptoBulk d + 1
  | .slice elems spare => uptoBulkAll elems + uptoBulkAll spare + 1
  | .agg parts => uptoBulkAll parts + 1
  | .iface _ d => uptoBulk d + 1
  | .map entries => uptoBulkEntries entries + 1
  | .held _ => 1
def uptoBulkAll {H : Type} : List (DataW H) → Nat
  | [] => 0
  | d :: r => uptoBulk d + uptoBulkAll r
def uptoBulkEntries {H : Type} : List (Lit × DataW H) → Nat
  | [] => 0
  | x :: r => uptoBulkEntry x + uptoBulkEntries r
def uptoBulkEntry {H : Type} : Lit × DataW H → Nat
  | (.string bytes, d) => bytes.length + uptoBulk d + 1
  | (_, d) => uptoBulk d + 1
 end
def uptoSmall : (H : Type) → List (DataW H) → Bool := fun _ ds => decide (uptoBulkAll ds ≤ 1048576)
def OpenSpec.upto (s : _root_.Go.ChangeSpec) : _root_.Go.OpenSpec := { _root_.Go.OpenSpec.ofChange s with cond := some uptoSmall }

/-- 'shinglelaw12.SplitLies', WHERE WHAT IT READS IS OF BULK AT MOST 1048576: true; the input reads as it did. -/
def splitLiesUptoRow : OpenClaim := { program := "ytekdhagmmflcnaa", sum := "96baa21943831e58ede12ebef7f6f2ea3c8c9709893907471a437a01a9df93db", func := "shingle/shinglelaw12.SplitLies", spec := "splitLies", unfollowed := true, recurses := true, apart := false, narrowed := true }
def SplitLiesUptoSaid : Prop := splitLiesUptoRow.holds Try.pinned (OpenSpec.upto splitLiesSpec)

/-- 'shinglelaw12.SplitStops', WHERE WHAT IT READS IS OF BULK AT MOST 1048576: true; the input reads as it did. -/
def splitStopsUptoRow : OpenClaim := { program := "ytekdhagmmflcnaa", sum := "96baa21943831e58ede12ebef7f6f2ea3c8c9709893907471a437a01a9df93db", func := "shingle/shinglelaw12.SplitStops", spec := "splitStops", unfollowed := true, recurses := true, apart := false, narrowed := true }
def SplitStopsUptoSaid : Prop := splitStopsUptoRow.holds Try.pinned (OpenSpec.upto splitStopsSpec)

/-- 'shinglelaw12.SplitCovers', WHERE WHAT IT READS IS OF BULK AT MOST 1048576: true; the input reads as it did. -/
def splitCoversUptoRow : OpenClaim := { program := "ytekdhagmmflcnaa", sum := "96baa21943831e58ede12ebef7f6f2ea3c8c9709893907471a437a01a9df93db", func := "shingle/shinglelaw12.SplitCovers", spec := "splitCovers", unfollowed := true, recurses := true, apart := false, narrowed := true }
def SplitCoversUptoSaid : Prop := splitCoversUptoRow.holds Try.pinned (OpenSpec.upto splitCoversSpec)

end Rows
end Go.Proofs.Ytekdhagmmflcnaa
