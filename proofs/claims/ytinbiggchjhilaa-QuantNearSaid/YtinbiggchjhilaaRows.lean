/-
  No cell of these rows narrows 'for every input' (looked for: loops, veiled, ifaces, maps, wideKeys, modest, calm, conditions, laid).
  DERIVED. THE GIVEN ROWS OF THIS SEAT. 6 by the template 'for every input the law returns true; each argument reads behind the call as it read before'; 0 by the template 'total and deterministic' (their statements: YtinbiggchjhilaaTotals.lean).
  GIVEN WITH THE SEED: the statements are not yours to turn. If you find one false, say at which input.
  Laid BY PROGRAM, IN A SANDBOX (cutbox-rows.mjs): the forced cells as the released guide's own fill.sh prints them over the translation c8b75078d0c86e77… (all of the seat's roots in one cut). By AI agents, Wed Nov 11 2026. No macro, syntax, notation, axiom, sorry.
-/
import Derived.Test.YtinbiggchjhilaaChecked
import GoSem.Claim
import GoSem.ClaimJoined
import GoSem.ClaimMapViews
import Derived.JoinedTies
import Derived.KernelRfl
namespace Go.Proofs.Ytinbiggchjhilaa
/- THE CELL 'sum', in the pinned program and in every row, IS THE sha256 OF THE DUMP (.gsa) THAT YtinbiggchjhilaaProg.lean LOADS. Nothing in Lean hashes anything: it is a label: what it is worth is what the hold of that sum in a sandbox is worth. -/
noncomputable def Try.pinned : Pinned := { name := "ytinbiggchjhilaa", sum := "c8b75078d0c86e77ee2ce3303e52645a9185ad6dd5829b178e99a51d6f2374a5", checked := Try.checked }
namespace Rows
def none {H : Type} : Left H := { results := [], args := [] }

/-- 'shinglelaw04.LutSteps': WHATEVER THE INPUT: true; the input reads as it did. -/
def lutStepsSpec : ChangeSpec := { name := "lutSteps", fn := fun _ => fun
  | [d1, d2] => { results := [.lit (.bool true)], args := [d1, d2] }
  | _ => none }
def lutStepsRow : OpenClaim := { program := "ytinbiggchjhilaa", sum := "c8b75078d0c86e77ee2ce3303e52645a9185ad6dd5829b178e99a51d6f2374a5", func := "shingle/shinglelaw04.LutSteps", spec := "lutSteps", apart := false }
def LutStepsSaid : Prop := lutStepsRow.holds Try.pinned (OpenSpec.ofChange lutStepsSpec)

/-- ITS FALSE NEIGHBOUR: 'it returns false'. Refute it at one input. -/
def lutStepsWrong : ChangeSpec := { name := "lutSteps", fn := fun _ => fun
  | [d1, d2] => { results := [.lit (.bool false)], args := [d1, d2] }
  | _ => none }
def LutStepsWrongFalsely : Prop := lutStepsRow.holds Try.pinned (OpenSpec.ofChange lutStepsWrong)

/-- 'shinglelaw04.LutFactors': WHATEVER THE INPUT: true; the input reads as it did. -/
def lutFactorsSpec : ChangeSpec := { name := "lutFactors", fn := fun _ => fun
  | [d] => { results := [.lit (.bool true)], args := [d] }
  | _ => none }
def lutFactorsRow : OpenClaim := { program := "ytinbiggchjhilaa", sum := "c8b75078d0c86e77ee2ce3303e52645a9185ad6dd5829b178e99a51d6f2374a5", func := "shingle/shinglelaw04.LutFactors", spec := "lutFactors", apart := false }
def LutFactorsSaid : Prop := lutFactorsRow.holds Try.pinned (OpenSpec.ofChange lutFactorsSpec)

/-- ITS FALSE NEIGHBOUR: 'it returns false'. Refute it at one input. -/
def lutFactorsWrong : ChangeSpec := { name := "lutFactors", fn := fun _ => fun
  | [d] => { results := [.lit (.bool false)], args := [d] }
  | _ => none }
def LutFactorsWrongFalsely : Prop := lutFactorsRow.holds Try.pinned (OpenSpec.ofChange lutFactorsWrong)

/-- 'shinglelaw04.LutStays': WHATEVER THE INPUT: true; the input reads as it did. -/
def lutStaysSpec : ChangeSpec := { name := "lutStays", fn := fun _ => fun
  | [d] => { results := [.lit (.bool true)], args := [d] }
  | _ => none }
def lutStaysRow : OpenClaim := { program := "ytinbiggchjhilaa", sum := "c8b75078d0c86e77ee2ce3303e52645a9185ad6dd5829b178e99a51d6f2374a5", func := "shingle/shinglelaw04.LutStays", spec := "lutStays", apart := false }
def LutStaysSaid : Prop := lutStaysRow.holds Try.pinned (OpenSpec.ofChange lutStaysSpec)

/-- ITS FALSE NEIGHBOUR: 'it returns false'. Refute it at one input. -/
def lutStaysWrong : ChangeSpec := { name := "lutStays", fn := fun _ => fun
  | [d] => { results := [.lit (.bool false)], args := [d] }
  | _ => none }
def LutStaysWrongFalsely : Prop := lutStaysRow.holds Try.pinned (OpenSpec.ofChange lutStaysWrong)

/-- 'shinglelaw11.QuantTurns': WHATEVER THE INPUT: true; the input reads as it did. -/
def quantTurnsSpec : ChangeSpec := { name := "quantTurns", fn := fun _ => fun
  | [d1, d2, d3] => { results := [.lit (.bool true)], args := [d1, d2, d3] }
  | _ => none }
def quantTurnsRow : OpenClaim := { program := "ytinbiggchjhilaa", sum := "c8b75078d0c86e77ee2ce3303e52645a9185ad6dd5829b178e99a51d6f2374a5", func := "shingle/shinglelaw11.QuantTurns", spec := "quantTurns", apart := false }
def QuantTurnsSaid : Prop := quantTurnsRow.holds Try.pinned (OpenSpec.ofChange quantTurnsSpec)

/-- ITS FALSE NEIGHBOUR: 'it returns false'. Refute it at one input. -/
def quantTurnsWrong : ChangeSpec := { name := "quantTurns", fn := fun _ => fun
  | [d1, d2, d3] => { results := [.lit (.bool false)], args := [d1, d2, d3] }
  | _ => none }
def QuantTurnsWrongFalsely : Prop := quantTurnsRow.holds Try.pinned (OpenSpec.ofChange quantTurnsWrong)

/-- 'shinglelaw11.QuantNear': WHATEVER THE INPUT: true; the input reads as it did. -/
def quantNearSpec : ChangeSpec := { name := "quantNear", fn := fun _ => fun
  | [d1, d2, d3] => { results := [.lit (.bool true)], args := [d1, d2, d3] }
  | _ => none }
def quantNearRow : OpenClaim := { program := "ytinbiggchjhilaa", sum := "c8b75078d0c86e77ee2ce3303e52645a9185ad6dd5829b178e99a51d6f2374a5", func := "shingle/shinglelaw11.QuantNear", spec := "quantNear", apart := false }
def QuantNearSaid : Prop := quantNearRow.holds Try.pinned (OpenSpec.ofChange quantNearSpec)

/-- ITS FALSE NEIGHBOUR: 'it returns false'. Refute it at one input. -/
def quantNearWrong : ChangeSpec := { name := "quantNear", fn := fun _ => fun
  | [d1, d2, d3] => { results := [.lit (.bool false)], args := [d1, d2, d3] }
  | _ => none }
def QuantNearWrongFalsely : Prop := quantNearRow.holds Try.pinned (OpenSpec.ofChange quantNearWrong)

/-- 'shinglelaw11.QuantCoarser': WHATEVER THE INPUT: true; the input reads as it did. -/
def quantCoarserSpec : ChangeSpec := { name := "quantCoarser", fn := fun _ => fun
  | [d1, d2, d3] => { results := [.lit (.bool true)], args := [d1, d2, d3] }
  | _ => none }
def quantCoarserRow : OpenClaim := { program := "ytinbiggchjhilaa", sum := "c8b75078d0c86e77ee2ce3303e52645a9185ad6dd5829b178e99a51d6f2374a5", func := "shingle/shinglelaw11.QuantCoarser", spec := "quantCoarser", apart := false }
def QuantCoarserSaid : Prop := quantCoarserRow.holds Try.pinned (OpenSpec.ofChange quantCoarserSpec)

/-- ITS FALSE NEIGHBOUR: 'it returns false'. Refute it at one input. -/
def quantCoarserWrong : ChangeSpec := { name := "quantCoarser", fn := fun _ => fun
  | [d1, d2, d3] => { results := [.lit (.bool false)], args := [d1, d2, d3] }
  | _ => none }
def QuantCoarserWrongFalsely : Prop := quantCoarserRow.holds Try.pinned (OpenSpec.ofChange quantCoarserWrong)

/- THE SECOND FORM. 'bulk': how many values and letters a reading holds, each counted each time it is reached (what is shared counts as often as it is met; a slice's spare places count too). A statement '..UptoSaid' is the law's where the arguments, and the package variables that the reading takes, are together of bulk at most 1048576: NARROWER than '..Said'. Prove '..Said' where nothing that the law and all that it calls make is longer than what came in: it says more and counts as full. Else prove '..UptoSaid'. A law counts once. -/
mutual
def uptoBulk {H : Type} : DataW H → Nat
  | .lit (.string bytes) => bytes.length + 1
  | .lit _ => 1
  | .nil => 1
  | .ptr d => uptoBulk d + 1
  | .slice elems spare => uptoBulkAll elems + uptoBulkAll spare + 1
  | .agg parts => uptoBulkAll parts + 1
  | .iface _ d => uptoBulk d + 1
  | .map entries => uptoBulkEntries entries + 1
  | .held _ => 1
def uptoBulkAll {H : Type} : List (DataW H) → Nat
  | [] => 0
  | d :: r => uptoBulk d + uptoBulkAll r
def uptoBulkEntries {H : Type} : List (Lit × DataW H) → Nat
  | [] => 0
  | x :: r => uptoBulkEntry x + uptoBulkEntries r
def uptoBulkEntry {H : Type} : Lit × DataW H → Nat
  | (.string bytes, d) => bytes.length + uptoBulk d + 1
  | (_, d) => uptoBulk d + 1
 end
def uptoSmall : (H : Type) → List (DataW H) → Bool := fun _ ds => decide (uptoBulkAll ds ≤ 1048576)
def OpenSpec.upto (s : _root_.Go.ChangeSpec) : _root_.Go.OpenSpec := { _root_.Go.OpenSpec.ofChange s with cond := some uptoSmall }

/-- 'shinglelaw04.LutSteps', WHERE WHAT IT READS IS OF BULK AT MOST 1048576: true; the input reads as it did. -/
def lutStepsUptoRow : OpenClaim := { program := "ytinbiggchjhilaa", sum := "c8b75078d0c86e77ee2ce3303e52645a9185ad6dd5829b178e99a51d6f2374a5", func := "shingle/shinglelaw04.LutSteps", spec := "lutSteps", apart := false, narrowed := true }
def LutStepsUptoSaid : Prop := lutStepsUptoRow.holds Try.pinned (OpenSpec.upto lutStepsSpec)

/-- 'shinglelaw04.LutFactors', WHERE WHAT IT READS IS OF BULK AT MOST 1048576: true; the input reads as it did. -/
def lutFactorsUptoRow : OpenClaim := { program := "ytinbiggchjhilaa", sum := "c8b75078d0c86e77ee2ce3303e52645a9185ad6dd5829b178e99a51d6f2374a5", func := "shingle/shinglelaw04.LutFactors", spec := "lutFactors", apart := false, narrowed := true }
def LutFactorsUptoSaid : Prop := lutFactorsUptoRow.holds Try.pinned (OpenSpec.upto lutFactorsSpec)

/-- 'shinglelaw04.LutStays', WHERE WHAT IT READS IS OF BULK AT MOST 1048576: true; the input reads as it did. -/
def lutStaysUptoRow : OpenClaim := { program := "ytinbiggchjhilaa", sum := "c8b75078d0c86e77ee2ce3303e52645a9185ad6dd5829b178e99a51d6f2374a5", func := "shingle/shinglelaw04.LutStays", spec := "lutStays", apart := false, narrowed := true }
def LutStaysUptoSaid : Prop := lutStaysUptoRow.holds Try.pinned (OpenSpec.upto lutStaysSpec)

/-- 'shinglelaw11.QuantTurns', WHERE WHAT IT READS IS OF BULK AT MOST 1048576: true; the input reads as it did. -/
def quantTurnsUptoRow : OpenClaim := { program := "ytinbiggchjhilaa", sum := "c8b75078d0c86e77ee2ce3303e52645a9185ad6dd5829b178e99a51d6f2374a5", func := "shingle/shinglelaw11.QuantTurns", spec := "quantTurns", apart := false, narrowed := true }
def QuantTurnsUptoSaid : Prop := quantTurnsUptoRow.holds Try.pinned (OpenSpec.upto quantTurnsSpec)

/-- 'shinglelaw11.QuantNear', WHERE WHAT IT READS IS OF BULK AT MOST 1048576: true; the input reads as it did. -/
def quantNearUptoRow : OpenClaim := { program := "ytinbiggchjhilaa", sum := "c8b75078d0c86e77ee2ce3303e52645a9185ad6dd5829b178e99a51d6f2374a5", func := "shingle/shinglelaw11.QuantNear", spec := "quantNear", apart := false, narrowed := true }
def QuantNearUptoSaid : Prop := quantNearUptoRow.holds Try.pinned (OpenSpec.upto quantNearSpec)

/-- 'shinglelaw11.QuantCoarser', WHERE WHAT IT READS IS OF BULK AT MOST 1048576: true; the input reads as it did. -/
def quantCoarserUptoRow : OpenClaim := { program := "ytinbiggchjhilaa", sum := "c8b75078d0c86e77ee2ce3303e52645a9185ad6dd5829b178e99a51d6f2374a5", func := "shingle/shinglelaw11.QuantCoarser", spec := "quantCoarser", apart := false, narrowed := true }
def QuantCoarserUptoSaid : Prop := quantCoarserUptoRow.holds Try.pinned (OpenSpec.upto quantCoarserSpec)

end Rows
end Go.Proofs.Ytinbiggchjhilaa
