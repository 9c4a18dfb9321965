/-
  No cell of these rows narrows 'for every input' (looked for: loops, veiled, ifaces, maps, wideKeys, modest, calm, conditions, laid).
  DERIVED. THE GIVEN ROWS OF THIS SEAT. 4 by the template 'for every input the law returns true; each argument reads behind the call as it read before'; 0 by the template 'total and deterministic' (their statements: YtmnkbcigjbiniaaTotals.lean).
  GIVEN WITH THE SEED: the statements are not yours to turn. If you find one false, say at which input.
  Laid BY PROGRAM, IN A SANDBOX (cutbox-rows.mjs): the forced cells as the released guide's own fill.sh prints them over the translation 065fa8549ae6fc5d… (all of the seat's roots in one cut). By AI agents, Wed Nov 11 2026. No macro, syntax, notation, axiom, sorry.
-/
import Derived.Test.YtmnkbcigjbiniaaChecked
import GoSem.Claim
import GoSem.ClaimJoined
import GoSem.ClaimMapViews
import Derived.JoinedTies
import Derived.KernelRfl
namespace Go.Proofs.Ytmnkbcigjbiniaa
/- THE CELL 'sum', in the pinned program and in every row, IS THE sha256 OF THE DUMP (.gsa) THAT YtmnkbcigjbiniaaProg.lean LOADS. Nothing in Lean hashes anything: it is a label: what it is worth is what the hold of that sum in a sandbox is worth. -/
noncomputable def Try.pinned : Pinned := { name := "ytmnkbcigjbiniaa", sum := "065fa8549ae6fc5ddc9659854a61ed2dda411afc25b534e35ac1615394d8bbcb", checked := Try.checked }
namespace Rows
def none {H : Type} : Left H := { results := [], args := [] }

/-- 'shinglelaw32.GopOrders': WHATEVER THE INPUT: true; the input reads as it did. -/
def gopOrdersSpec : ChangeSpec := { name := "gopOrders", fn := fun _ => fun
  | [d1, d2, d3] => { results := [.lit (.bool true)], args := [d1, d2, d3] }
  | _ => none }
def gopOrdersRow : OpenClaim := { program := "ytmnkbcigjbiniaa", sum := "065fa8549ae6fc5ddc9659854a61ed2dda411afc25b534e35ac1615394d8bbcb", func := "shingle/shinglelaw32.GopOrders", spec := "gopOrders", unfollowed := true, recurses := true, apart := false }
def GopOrdersSaid : Prop := gopOrdersRow.holds Try.pinned (OpenSpec.ofChange gopOrdersSpec)

/-- ITS FALSE NEIGHBOUR: 'it returns false'. Refute it at one input. -/
def gopOrdersWrong : ChangeSpec := { name := "gopOrders", fn := fun _ => fun
  | [d1, d2, d3] => { results := [.lit (.bool false)], args := [d1, d2, d3] }
  | _ => none }
def GopOrdersWrongFalsely : Prop := gopOrdersRow.holds Try.pinned (OpenSpec.ofChange gopOrdersWrong)

/-- 'shinglelaw32.GopDelays': WHATEVER THE INPUT: true; the input reads as it did. -/
def gopDelaysSpec : ChangeSpec := { name := "gopDelays", fn := fun _ => fun
  | [d] => { results := [.lit (.bool true)], args := [d] }
  | _ => none }
def gopDelaysRow : OpenClaim := { program := "ytmnkbcigjbiniaa", sum := "065fa8549ae6fc5ddc9659854a61ed2dda411afc25b534e35ac1615394d8bbcb", func := "shingle/shinglelaw32.GopDelays", spec := "gopDelays", unfollowed := true, recurses := true, apart := false }
def GopDelaysSaid : Prop := gopDelaysRow.holds Try.pinned (OpenSpec.ofChange gopDelaysSpec)

/-- ITS FALSE NEIGHBOUR: 'it returns false'. Refute it at one input. -/
def gopDelaysWrong : ChangeSpec := { name := "gopDelays", fn := fun _ => fun
  | [d] => { results := [.lit (.bool false)], args := [d] }
  | _ => none }
def GopDelaysWrongFalsely : Prop := gopDelaysRow.holds Try.pinned (OpenSpec.ofChange gopDelaysWrong)

/-- 'shinglelaw32.GopHolds': WHATEVER THE INPUT: true; the input reads as it did. -/
def gopHoldsSpec : ChangeSpec := { name := "gopHolds", fn := fun _ => fun
  | [d1, d2] => { results := [.lit (.bool true)], args := [d1, d2] }
  | _ => none }
def gopHoldsRow : OpenClaim := { program := "ytmnkbcigjbiniaa", sum := "065fa8549ae6fc5ddc9659854a61ed2dda411afc25b534e35ac1615394d8bbcb", func := "shingle/shinglelaw32.GopHolds", spec := "gopHolds", unfollowed := true, recurses := true, apart := false }
def GopHoldsSaid : Prop := gopHoldsRow.holds Try.pinned (OpenSpec.ofChange gopHoldsSpec)

/-- ITS FALSE NEIGHBOUR: 'it returns false'. Refute it at one input. -/
def gopHoldsWrong : ChangeSpec := { name := "gopHolds", fn := fun _ => fun
  | [d1, d2] => { results := [.lit (.bool false)], args := [d1, d2] }
  | _ => none }
def GopHoldsWrongFalsely : Prop := gopHoldsRow.holds Try.pinned (OpenSpec.ofChange gopHoldsWrong)

/-- 'shinglelaw32.GopPlain': WHATEVER THE INPUT: true; the input reads as it did. -/
def gopPlainSpec : ChangeSpec := { name := "gopPlain", fn := fun _ => fun
  | [d1, d2] => { results := [.lit (.bool true)], args := [d1, d2] }
  | _ => none }
def gopPlainRow : OpenClaim := { program := "ytmnkbcigjbiniaa", sum := "065fa8549ae6fc5ddc9659854a61ed2dda411afc25b534e35ac1615394d8bbcb", func := "shingle/shinglelaw32.GopPlain", spec := "gopPlain", unfollowed := true, recurses := true, apart := false }
def GopPlainSaid : Prop := gopPlainRow.holds Try.pinned (OpenSpec.ofChange gopPlainSpec)

/-- ITS FALSE NEIGHBOUR: 'it returns false'. Refute it at one input. -/
def gopPlainWrong : ChangeSpec := { name := "gopPlain", fn := fun _ => fun
  | [d1, d2] => { results := [.lit (.bool false)], args := [d1, d2] }
  | _ => none }
def GopPlainWrongFalsely : Prop := gopPlainRow.holds Try.pinned (OpenSpec.ofChange gopPlainWrong)

/- THE SECOND FORM. 'bulk': how many values and letters a reading holds, each counted each time it is reached (what is shared counts as often as it is met; a slice's spare places count too). A statement '..UptoSaid' is the law's where the arguments, and the package variables that the reading takes, are together of bulk at most 1048576: NARROWER than '..Said'. Prove '..Said' where nothing that the law and all that it calls make is longer than what came in: it says more and counts as full. Else prove '..UptoSaid'. A law counts once. -/
mutual
def uptoBulk {H : Type} : DataW H → Nat
  | .lit (.string bytes) => bytes.length + 1
  | .lit _ => 1
  | .nil => 1
  | .ptr d => uptoBulk d + 1
  | .slice elems spare => uptoBulkAll elems + uptoBulkAll spare + 1
  | .agg parts => uptoBulkAll parts + 1
  | .iface _ d => uptoBulk d + 1
  | .map entries => uptoBulkEntries entries + 1
  | .held _ => 1
def uptoBulkAll {H : Type} : List (DataW H) → Nat
  | [] => 0
  | d :: r => uptoBulk d + uptoBulkAll r
def uptoBulkEntries {H : Type} : List (Lit × DataW H) → Nat
  | [] => 0
  | x :: r => uptoBulkEntry x + uptoBulkEntries r
def uptoBulkEntry {H : Type} : Lit × DataW H → Nat
  | (.string bytes, d) => bytes.length + uptoBulk d + 1
  | (_, d) => uptoBulk d + 1
 end
def uptoSmall : (H : Type) → List (DataW H) → Bool := fun _ ds => decide (uptoBulkAll ds ≤ 1048576)
def OpenSpec.upto (s : _root_.Go.ChangeSpec) : _root_.Go.OpenSpec := { _root_.Go.OpenSpec.ofChange s with cond := some uptoSmall }

/-- 'shinglelaw32.GopOrders', WHERE WHAT IT READS IS OF BULK AT MOST 1048576: true; the input reads as it did. -/
def gopOrdersUptoRow : OpenClaim := { program := "ytmnkbcigjbiniaa", sum := "065fa8549ae6fc5ddc9659854a61ed2dda411afc25b534e35ac1615394d8bbcb", func := "shingle/shinglelaw32.GopOrders", spec := "gopOrders", unfollowed := true, recurses := true, apart := false, narrowed := true }
def GopOrdersUptoSaid : Prop := gopOrdersUptoRow.holds Try.pinned (OpenSpec.upto gopOrdersSpec)

/-- 'shinglelaw32.GopDelays', WHERE WHAT IT READS IS OF BULK AT MOST 1048576: true; the input reads as it did. -/
def gopDelaysUptoRow : OpenClaim := { program := "ytmnkbcigjbiniaa", sum := "065fa8549ae6fc5ddc9659854a61ed2dda411afc25b534e35ac1615394d8bbcb", func := "shingle/shinglelaw32.GopDelays", spec := "gopDelays", unfollowed := true, recurses := true, apart := false, narrowed := true }
def GopDelaysUptoSaid : Prop := gopDelaysUptoRow.holds Try.pinned (OpenSpec.upto gopDelaysSpec)

/-- 'shinglelaw32.GopHolds', WHERE WHAT IT READS IS OF BULK AT MOST 1048576: true; the input reads as it did. -/
def gopHoldsUptoRow : OpenClaim := { program := "ytmnkbcigjbiniaa", sum := "065fa8549ae6fc5ddc9659854a61ed2dda411afc25b534e35ac1615394d8bbcb", func := "shingle/shinglelaw32.GopHolds", spec := "gopHolds", unfollowed := true, recurses := true, apart := false, narrowed := true }
def GopHoldsUptoSaid : Prop := gopHoldsUptoRow.holds Try.pinned (OpenSpec.upto gopHoldsSpec)

/-- 'shinglelaw32.GopPlain', WHERE WHAT IT READS IS OF BULK AT MOST 1048576: true; the input reads as it did. -/
def gopPlainUptoRow : OpenClaim := { program := "ytmnkbcigjbiniaa", sum := "065fa8549ae6fc5ddc9659854a61ed2dda411afc25b534e35ac1615394d8bbcb", func := "shingle/shinglelaw32.GopPlain", spec := "gopPlain", unfollowed := true, recurses := true, apart := false, narrowed := true }
def GopPlainUptoSaid : Prop := gopPlainUptoRow.holds Try.pinned (OpenSpec.upto gopPlainSpec)

end Rows
end Go.Proofs.Ytmnkbcigjbiniaa
