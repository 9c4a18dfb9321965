/-
  No cell of these rows narrows 'for every input' (looked for: loops, veiled, ifaces, maps, wideKeys, modest, calm, conditions, laid).
  DERIVED. THE GIVEN ROWS OF THIS SEAT. 8 by the template 'for every input the law returns true; each argument reads behind the call as it read before'; 0 by the template 'total and deterministic' (their statements: YtbekkdlgibijdaaTotals.lean).
  GIVEN WITH THE SEED: the statements are not yours to turn. If you find one false, say at which input.
  Laid BY PROGRAM, IN A SANDBOX (cutbox-rows.mjs): the forced cells as the released guide's own fill.sh prints them over the translation ab17128629486c6d… (all of the seat's roots in one cut). By AI agents, Wed Nov 11 2026. No macro, syntax, notation, axiom, sorry.
-/
import Derived.Test.YtbekkdlgibijdaaChecked
import GoSem.Claim
import GoSem.ClaimJoined
import GoSem.ClaimMapViews
import Derived.JoinedTies
import Derived.KernelRfl
namespace Go.Proofs.Ytbekkdlgibijdaa
/- THE CELL 'sum', in the pinned program and in every row, IS THE sha256 OF THE DUMP (.gsa) THAT YtbekkdlgibijdaaProg.lean LOADS. Nothing in Lean hashes anything: it is a label: what it is worth is what the hold of that sum in a sandbox is worth. -/
noncomputable def Try.pinned : Pinned := { name := "ytbekkdlgibijdaa", sum := "ab17128629486c6d83a9c8b841e989fdda02776ff7d1cb4555aeabb482b65cee", checked := Try.checked }
namespace Rows
def none {H : Type} : Left H := { results := [], args := [] }

/-- 'shinglelaw03.CutReads': WHATEVER THE INPUT: true; the input reads as it did. -/
def cutReadsSpec : ChangeSpec := { name := "cutReads", fn := fun _ => fun
  | [d1, d2] => { results := [.lit (.bool true)], args := [d1, d2] }
  | _ => none }
def cutReadsRow : OpenClaim := { program := "ytbekkdlgibijdaa", sum := "ab17128629486c6d83a9c8b841e989fdda02776ff7d1cb4555aeabb482b65cee", func := "shingle/shinglelaw03.CutReads", spec := "cutReads", apart := false }
def CutReadsSaid : Prop := cutReadsRow.holds Try.pinned (OpenSpec.ofChange cutReadsSpec)

/-- ITS FALSE NEIGHBOUR: 'it returns false'. Refute it at one input. -/
def cutReadsWrong : ChangeSpec := { name := "cutReads", fn := fun _ => fun
  | [d1, d2] => { results := [.lit (.bool false)], args := [d1, d2] }
  | _ => none }
def CutReadsWrongFalsely : Prop := cutReadsRow.holds Try.pinned (OpenSpec.ofChange cutReadsWrong)

/-- 'shinglelaw03.CutWrites': WHATEVER THE INPUT: true; the input reads as it did. -/
def cutWritesSpec : ChangeSpec := { name := "cutWrites", fn := fun _ => fun
  | [d] => { results := [.lit (.bool true)], args := [d] }
  | _ => none }
def cutWritesRow : OpenClaim := { program := "ytbekkdlgibijdaa", sum := "ab17128629486c6d83a9c8b841e989fdda02776ff7d1cb4555aeabb482b65cee", func := "shingle/shinglelaw03.CutWrites", spec := "cutWrites", apart := false }
def CutWritesSaid : Prop := cutWritesRow.holds Try.pinned (OpenSpec.ofChange cutWritesSpec)

/-- ITS FALSE NEIGHBOUR: 'it returns false'. Refute it at one input. -/
def cutWritesWrong : ChangeSpec := { name := "cutWrites", fn := fun _ => fun
  | [d] => { results := [.lit (.bool false)], args := [d] }
  | _ => none }
def CutWritesWrongFalsely : Prop := cutWritesRow.holds Try.pinned (OpenSpec.ofChange cutWritesWrong)

/-- 'shinglelaw03.CutBack': WHATEVER THE INPUT: true; the input reads as it did. -/
def cutBackSpec : ChangeSpec := { name := "cutBack", fn := fun _ => fun
  | [d1, d2] => { results := [.lit (.bool true)], args := [d1, d2] }
  | _ => none }
def cutBackRow : OpenClaim := { program := "ytbekkdlgibijdaa", sum := "ab17128629486c6d83a9c8b841e989fdda02776ff7d1cb4555aeabb482b65cee", func := "shingle/shinglelaw03.CutBack", spec := "cutBack", apart := false }
def CutBackSaid : Prop := cutBackRow.holds Try.pinned (OpenSpec.ofChange cutBackSpec)

/-- ITS FALSE NEIGHBOUR: 'it returns false'. Refute it at one input. -/
def cutBackWrong : ChangeSpec := { name := "cutBack", fn := fun _ => fun
  | [d1, d2] => { results := [.lit (.bool false)], args := [d1, d2] }
  | _ => none }
def CutBackWrongFalsely : Prop := cutBackRow.holds Try.pinned (OpenSpec.ofChange cutBackWrong)

/-- 'shinglelaw27.UnitCodes': WHATEVER THE INPUT: true; the input reads as it did. -/
def unitCodesSpec : ChangeSpec := { name := "unitCodes", fn := fun _ => fun
  | [d1, d2] => { results := [.lit (.bool true)], args := [d1, d2] }
  | _ => none }
def unitCodesRow : OpenClaim := { program := "ytbekkdlgibijdaa", sum := "ab17128629486c6d83a9c8b841e989fdda02776ff7d1cb4555aeabb482b65cee", func := "shingle/shinglelaw27.UnitCodes", spec := "unitCodes", unfollowed := true, recurses := true, apart := false }
def UnitCodesSaid : Prop := unitCodesRow.holds Try.pinned (OpenSpec.ofChange unitCodesSpec)

/-- ITS FALSE NEIGHBOUR: 'it returns false'. Refute it at one input. -/
def unitCodesWrong : ChangeSpec := { name := "unitCodes", fn := fun _ => fun
  | [d1, d2] => { results := [.lit (.bool false)], args := [d1, d2] }
  | _ => none }
def UnitCodesWrongFalsely : Prop := unitCodesRow.holds Try.pinned (OpenSpec.ofChange unitCodesWrong)

/-- 'shinglelaw27.UnitWalks': WHATEVER THE INPUT: true; the input reads as it did. -/
def unitWalksSpec : ChangeSpec := { name := "unitWalks", fn := fun _ => fun
  | [d] => { results := [.lit (.bool true)], args := [d] }
  | _ => none }
def unitWalksRow : OpenClaim := { program := "ytbekkdlgibijdaa", sum := "ab17128629486c6d83a9c8b841e989fdda02776ff7d1cb4555aeabb482b65cee", func := "shingle/shinglelaw27.UnitWalks", spec := "unitWalks", unfollowed := true, recurses := true, apart := false }
def UnitWalksSaid : Prop := unitWalksRow.holds Try.pinned (OpenSpec.ofChange unitWalksSpec)

/-- ITS FALSE NEIGHBOUR: 'it returns false'. Refute it at one input. -/
def unitWalksWrong : ChangeSpec := { name := "unitWalks", fn := fun _ => fun
  | [d] => { results := [.lit (.bool false)], args := [d] }
  | _ => none }
def UnitWalksWrongFalsely : Prop := unitWalksRow.holds Try.pinned (OpenSpec.ofChange unitWalksWrong)

/-- 'shinglelaw27.UnitSplits': WHATEVER THE INPUT: true; the input reads as it did. -/
def unitSplitsSpec : ChangeSpec := { name := "unitSplits", fn := fun _ => fun
  | [d1, d2] => { results := [.lit (.bool true)], args := [d1, d2] }
  | _ => none }
def unitSplitsRow : OpenClaim := { program := "ytbekkdlgibijdaa", sum := "ab17128629486c6d83a9c8b841e989fdda02776ff7d1cb4555aeabb482b65cee", func := "shingle/shinglelaw27.UnitSplits", spec := "unitSplits", unfollowed := true, recurses := true, apart := false }
def UnitSplitsSaid : Prop := unitSplitsRow.holds Try.pinned (OpenSpec.ofChange unitSplitsSpec)

/-- ITS FALSE NEIGHBOUR: 'it returns false'. Refute it at one input. -/
def unitSplitsWrong : ChangeSpec := { name := "unitSplits", fn := fun _ => fun
  | [d1, d2] => { results := [.lit (.bool false)], args := [d1, d2] }
  | _ => none }
def UnitSplitsWrongFalsely : Prop := unitSplitsRow.holds Try.pinned (OpenSpec.ofChange unitSplitsWrong)

/-- 'shinglelaw27.UnitBack': WHATEVER THE INPUT: true; the input reads as it did. -/
def unitBackSpec : ChangeSpec := { name := "unitBack", fn := fun _ => fun
  | [d1, d2] => { results := [.lit (.bool true)], args := [d1, d2] }
  | _ => none }
def unitBackRow : OpenClaim := { program := "ytbekkdlgibijdaa", sum := "ab17128629486c6d83a9c8b841e989fdda02776ff7d1cb4555aeabb482b65cee", func := "shingle/shinglelaw27.UnitBack", spec := "unitBack", unfollowed := true, recurses := true, apart := false }
def UnitBackSaid : Prop := unitBackRow.holds Try.pinned (OpenSpec.ofChange unitBackSpec)

/-- ITS FALSE NEIGHBOUR: 'it returns false'. Refute it at one input. -/
def unitBackWrong : ChangeSpec := { name := "unitBack", fn := fun _ => fun
  | [d1, d2] => { results := [.lit (.bool false)], args := [d1, d2] }
  | _ => none }
def UnitBackWrongFalsely : Prop := unitBackRow.holds Try.pinned (OpenSpec.ofChange unitBackWrong)

/-- 'shinglelaw27.UnitSteps': WHATEVER THE INPUT: true; the input reads as it did. -/
def unitStepsSpec : ChangeSpec := { name := "unitSteps", fn := fun _ => fun
  | [d] => { results := [.lit (.bool true)], args := [d] }
  | _ => none }
def unitStepsRow : OpenClaim := { program := "ytbekkdlgibijdaa", sum := "ab17128629486c6d83a9c8b841e989fdda02776ff7d1cb4555aeabb482b65cee", func := "shingle/shinglelaw27.UnitSteps", spec := "unitSteps", unfollowed := true, recurses := true, apart := false }
def UnitStepsSaid : Prop := unitStepsRow.holds Try.pinned (OpenSpec.ofChange unitStepsSpec)

/-- ITS FALSE NEIGHBOUR: 'it returns false'. Refute it at one input. -/
def unitStepsWrong : ChangeSpec := { name := "unitSteps", fn := fun _ => fun
  | [d] => { results := [.lit (.bool false)], args := [d] }
  | _ => none }
def UnitStepsWrongFalsely : Prop := unitStepsRow.holds Try.pinned (OpenSpec.ofChange unitStepsWrong)

/- THE SECOND FORM. 'bulk': how many values and letters a reading holds, each counted each time it is reached (what is shared counts as often as it is met; a slice's spare places count too). A statement '..UptoSaid' is the law's where the arguments, and the package variables that the reading takes, are together of bulk at most 1048576: NARROWER than '..Said'. Prove '..Said' where nothing that the law and all that it calls make is longer than what came in: it says more and counts as full. Else prove '..UptoSaid'. A law counts once. -/
mutual
def uptoBulk {H : Type} : DataW H → Nat
  | .lit (.string bytes) => bytes.length + 1
  | .lit _ => 1
  | .nil => 1
  | .ptr d => uptoBulk d + 1
  | .slice elems spare => uptoBulkAll elems + uptoBulkAll spare + 1
  | .agg parts => uptoBulkAll parts + 1
  | .iface _ d => uptoBulk d + 1
  | .map entries => uptoBulkEntries entries + 1
  | .held _ => 1
def uptoBulkAll {H : Type} : List (DataW H) → Nat
  | [] => 0
  | d :: r => uptoBulk d + uptoBulkAll r
def uptoBulkEntries {H : Type} : List (Lit × DataW H) → Nat
  | [] => 0
  | x :: r => uptoBulkEntry x + uptoBulkEntries r
def uptoBulkEntry {H : Type} : Lit × DataW H → Nat
  | (.string bytes, d) => bytes.length + uptoBulk d + 1
  | (_, d) => uptoBulk d + 1
 end
def uptoSmall : (H : Type) → List (DataW H) → Bool := fun _ ds => decide (uptoBulkAll ds ≤ 1048576)
def OpenSpec.upto (s : _root_.Go.ChangeSpec) : _root_.Go.OpenSpec := { _root_.Go.OpenSpec.ofChange s with cond := some uptoSmall }

/-- 'shinglelaw03.CutReads', WHERE WHAT IT READS IS OF BULK AT MOST 1048576: true; the input reads as it did. -/
def cutReadsUptoRow : OpenClaim := { program := "ytbekkdlgibijdaa", sum := "ab17128629486c6d83a9c8b841e989fdda02776ff7d1cb4555aeabb482b65cee", func := "shingle/shinglelaw03.CutReads", spec := "cutReads", apart := false, narrowed := true }
def CutReadsUptoSaid : Prop := cutReadsUptoRow.holds Try.pinned (OpenSpec.upto cutReadsSpec)

/-- 'shinglelaw03.CutWrites', WHERE WHAT IT READS IS OF BULK AT MOST 1048576: true; the input reads as it did. -/
def cutWritesUptoRow : OpenClaim := { program := "ytbekkdlgibijdaa", sum := "ab17128629486c6d83a9c8b841e989fdda02776ff7d1cb4555aeabb482b65cee", func := "shingle/shinglelaw03.CutWrites", spec := "cutWrites", apart := false, narrowed := true }
def CutWritesUptoSaid : Prop := cutWritesUptoRow.holds Try.pinned (OpenSpec.upto cutWritesSpec)

/-- 'shinglelaw03.CutBack', WHERE WHAT IT READS IS OF BULK AT MOST 1048576: true; the input reads as it did. -/
def cutBackUptoRow : OpenClaim := { program := "ytbekkdlgibijdaa", sum := "ab17128629486c6d83a9c8b841e989fdda02776ff7d1cb4555aeabb482b65cee", func := "shingle/shinglelaw03.CutBack", spec := "cutBack", apart := false, narrowed := true }
def CutBackUptoSaid : Prop := cutBackUptoRow.holds Try.pinned (OpenSpec.upto cutBackSpec)

/-- 'shinglelaw27.UnitCodes', WHERE WHAT IT READS IS OF BULK AT MOST 1048576: true; the input reads as it did. -/
def unitCodesUptoRow : OpenClaim := { program := "ytbekkdlgibijdaa", sum := "ab17128629486c6d83a9c8b841e989fdda02776ff7d1cb4555aeabb482b65cee", func := "shingle/shinglelaw27.UnitCodes", spec := "unitCodes", unfollowed := true, recurses := true, apart := false, narrowed := true }
def UnitCodesUptoSaid : Prop := unitCodesUptoRow.holds Try.pinned (OpenSpec.upto unitCodesSpec)

/-- 'shinglelaw27.UnitWalks', WHERE WHAT IT READS IS OF BULK AT MOST 1048576: true; the input reads as it did. -/
def unitWalksUptoRow : OpenClaim := { program := "ytbekkdlgibijdaa", sum := "ab17128629486c6d83a9c8b841e989fdda02776ff7d1cb4555aeabb482b65cee", func := "shingle/shinglelaw27.UnitWalks", spec := "unitWalks", unfollowed := true, recurses := true, apart := false, narrowed := true }
def UnitWalksUptoSaid : Prop := unitWalksUptoRow.holds Try.pinned (OpenSpec.upto unitWalksSpec)

/-- 'shinglelaw27.UnitSplits', WHERE WHAT IT READS IS OF BULK AT MOST 1048576: true; the input reads as it did. -/
def unitSplitsUptoRow : OpenClaim := { program := "ytbekkdlgibijdaa", sum := "ab17128629486c6d83a9c8b841e989fdda02776ff7d1cb4555aeabb482b65cee", func := "shingle/shinglelaw27.UnitSplits", spec := "unitSplits", unfollowed := true, recurses := true, apart := false, narrowed := true }
def UnitSplitsUptoSaid : Prop := unitSplitsUptoRow.holds Try.pinned (OpenSpec.upto unitSplitsSpec)

/-- 'shinglelaw27.UnitBack', WHERE WHAT IT READS IS OF BULK AT MOST 1048576: true; the input reads as it did. -/
def unitBackUptoRow : OpenClaim := { program := "ytbekkdlgibijdaa", sum := "ab17128629486c6d83a9c8b841e989fdda02776ff7d1cb4555aeabb482b65cee", func := "shingle/shinglelaw27.UnitBack", spec := "unitBack", unfollowed := true, recurses := true, apart := false, narrowed := true }
def UnitBackUptoSaid : Prop := unitBackUptoRow.holds Try.pinned (OpenSpec.upto unitBackSpec)

/-- 'shinglelaw27.UnitSteps', WHERE WHAT IT READS IS OF BULK AT MOST 1048576: true; the input reads as it did. -/
def unitStepsUptoRow : OpenClaim := { program := "ytbekkdlgibijdaa", sum := "ab17128629486c6d83a9c8b841e989fdda02776ff7d1cb4555aeabb482b65cee", func := "shingle/shinglelaw27.UnitSteps", spec := "unitSteps", unfollowed := true, recurses := true, apart := false, narrowed := true }
def UnitStepsUptoSaid : Prop := unitStepsUptoRow.holds Try.pinned (OpenSpec.upto unitStepsSpec)

end Rows
end Go.Proofs.Ytbekkdlgibijdaa
