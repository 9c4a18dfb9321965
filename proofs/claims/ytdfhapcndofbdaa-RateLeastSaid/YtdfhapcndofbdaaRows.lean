/-
  No cell of these rows narrows 'for every input' (looked for: loops, veiled, ifaces, maps, wideKeys, modest, calm, conditions, laid).
  DERIVED. THE GIVEN ROWS OF THIS SEAT. 4 by the template 'for every input the law returns true; each argument reads behind the call as it read before'; 0 by the template 'total and deterministic' (their statements: YtdfhapcndofbdaaTotals.lean).
  GIVEN WITH THE SEED: the statements are not yours to turn. If you find one false, say at which input.
  Laid BY PROGRAM, IN A SANDBOX (cutbox-rows.mjs): the forced cells as the released guide's own fill.sh prints them over the translation 13bfaeb4602e70c5… (all of the seat's roots in one cut). By AI agents, Wed Nov 11 2026. No macro, syntax, notation, axiom, sorry.
-/
import Derived.Test.YtdfhapcndofbdaaChecked
import GoSem.Claim
import GoSem.ClaimJoined
import GoSem.ClaimMapViews
import Derived.JoinedTies
import Derived.KernelRfl
namespace Go.Proofs.Ytdfhapcndofbdaa
/- THE CELL 'sum', in the pinned program and in every row, IS THE sha256 OF THE DUMP (.gsa) THAT YtdfhapcndofbdaaProg.lean LOADS. Nothing in Lean hashes anything: it is a label: what it is worth is what the hold of that sum in a sandbox is worth. -/
noncomputable def Try.pinned : Pinned := { name := "ytdfhapcndofbdaa", sum := "13bfaeb4602e70c5fe71b9ca20ee3c3e64892d7eea8078ed17939f0ea794ffac", checked := Try.checked }
namespace Rows
def none {H : Type} : Left H := { results := [], args := [] }

/-- 'shinglelaw33.RatePlays': WHATEVER THE INPUT: true; the input reads as it did. -/
def ratePlaysSpec : ChangeSpec := { name := "ratePlays", fn := fun _ => fun
  | [d1, d2] => { results := [.lit (.bool true)], args := [d1, d2] }
  | _ => none }
def ratePlaysRow : OpenClaim := { program := "ytdfhapcndofbdaa", sum := "13bfaeb4602e70c5fe71b9ca20ee3c3e64892d7eea8078ed17939f0ea794ffac", func := "shingle/shinglelaw33.RatePlays", spec := "ratePlays", unfollowed := true, recurses := true, apart := false }
def RatePlaysSaid : Prop := ratePlaysRow.holds Try.pinned (OpenSpec.ofChange ratePlaysSpec)

/-- ITS FALSE NEIGHBOUR: 'it returns false'. Refute it at one input. -/
def ratePlaysWrong : ChangeSpec := { name := "ratePlays", fn := fun _ => fun
  | [d1, d2] => { results := [.lit (.bool false)], args := [d1, d2] }
  | _ => none }
def RatePlaysWrongFalsely : Prop := ratePlaysRow.holds Try.pinned (OpenSpec.ofChange ratePlaysWrong)

/-- 'shinglelaw33.RatePicks': WHATEVER THE INPUT: true; the input reads as it did. -/
def ratePicksSpec : ChangeSpec := { name := "ratePicks", fn := fun _ => fun
  | [d1, d2] => { results := [.lit (.bool true)], args := [d1, d2] }
  | _ => none }
def ratePicksRow : OpenClaim := { program := "ytdfhapcndofbdaa", sum := "13bfaeb4602e70c5fe71b9ca20ee3c3e64892d7eea8078ed17939f0ea794ffac", func := "shingle/shinglelaw33.RatePicks", spec := "ratePicks", unfollowed := true, recurses := true, apart := false }
def RatePicksSaid : Prop := ratePicksRow.holds Try.pinned (OpenSpec.ofChange ratePicksSpec)

/-- ITS FALSE NEIGHBOUR: 'it returns false'. Refute it at one input. -/
def ratePicksWrong : ChangeSpec := { name := "ratePicks", fn := fun _ => fun
  | [d1, d2] => { results := [.lit (.bool false)], args := [d1, d2] }
  | _ => none }
def RatePicksWrongFalsely : Prop := ratePicksRow.holds Try.pinned (OpenSpec.ofChange ratePicksWrong)

/-- 'shinglelaw33.RateLeast': WHATEVER THE INPUT: true; the input reads as it did. -/
def rateLeastSpec : ChangeSpec := { name := "rateLeast", fn := fun _ => fun
  | [d1, d2, d3] => { results := [.lit (.bool true)], args := [d1, d2, d3] }
  | _ => none }
def rateLeastRow : OpenClaim := { program := "ytdfhapcndofbdaa", sum := "13bfaeb4602e70c5fe71b9ca20ee3c3e64892d7eea8078ed17939f0ea794ffac", func := "shingle/shinglelaw33.RateLeast", spec := "rateLeast", unfollowed := true, recurses := true, apart := false }
def RateLeastSaid : Prop := rateLeastRow.holds Try.pinned (OpenSpec.ofChange rateLeastSpec)

/-- ITS FALSE NEIGHBOUR: 'it returns false'. Refute it at one input. -/
def rateLeastWrong : ChangeSpec := { name := "rateLeast", fn := fun _ => fun
  | [d1, d2, d3] => { results := [.lit (.bool false)], args := [d1, d2, d3] }
  | _ => none }
def RateLeastWrongFalsely : Prop := rateLeastRow.holds Try.pinned (OpenSpec.ofChange rateLeastWrong)

/-- 'shinglelaw33.RateStays': WHATEVER THE INPUT: true; the input reads as it did. -/
def rateStaysSpec : ChangeSpec := { name := "rateStays", fn := fun _ => fun
  | [d1, d2, d3] => { results := [.lit (.bool true)], args := [d1, d2, d3] }
  | _ => none }
def rateStaysRow : OpenClaim := { program := "ytdfhapcndofbdaa", sum := "13bfaeb4602e70c5fe71b9ca20ee3c3e64892d7eea8078ed17939f0ea794ffac", func := "shingle/shinglelaw33.RateStays", spec := "rateStays", unfollowed := true, recurses := true, apart := false }
def RateStaysSaid : Prop := rateStaysRow.holds Try.pinned (OpenSpec.ofChange rateStaysSpec)

/-- ITS FALSE NEIGHBOUR: 'it returns false'. Refute it at one input. -/
def rateStaysWrong : ChangeSpec := { name := "rateStays", fn := fun _ => fun
  | [d1, d2, d3] => { results := [.lit (.bool false)], args := [d1, d2, d3] }
  | _ => none }
def RateStaysWrongFalsely : Prop := rateStaysRow.holds Try.pinned (OpenSpec.ofChange rateStaysWrong)

/- THE SECOND FORM. 'bulk': how many values and letters a reading holds, each counted each time it is reached (what is shared counts as often as it is met; a slice's spare places count too). A statement '..UptoSaid' is the law's where the arguments, and the package variables that the reading takes, are together of bulk at most 1048576: NARROWER than '..Said'. Prove '..Said' where nothing that the law and all that it calls make is longer than what came in: it says more and counts as full. Else prove '..UptoSaid'. A law counts once. -/
mutual
def uptoBulk {H : Type} : DataW H → Nat
  | .lit (.string bytes) => bytes.length + 1
  | .lit _ => 1
  | .nil => 1
  | .ptr d => uptoBulk d + 1
  | .slice elems spare => uptoBulkAll elems + uptoBulkAll spare + 1
  | .agg parts => uptoBulkAll parts + 1
  | .iface _ d => uptoBulk d + 1
  | .map entries => uptoBulkEntries entries + 1
  | .held _ => 1
def uptoBulkAll {H : Type} : List (DataW H) → Nat
  | [] => 0
  | d :: r => uptoBulk d + uptoBulkAll r
def uptoBulkEntries {H : Type} : List (Lit × DataW H) → Nat
  | [] => 0
  | x :: r => uptoBulkEntry x + uptoBulkEntries r
def uptoBulkEntry {H : Type} : Lit × DataW H → Nat
  | (.string bytes, d) => bytes.length + uptoBulk d + 1
  | (_, d) => uptoBulk d + 1
 end
def uptoSmall : (H : Type) → List (DataW H) → Bool := fun _ ds => decide (uptoBulkAll ds ≤ 1048576)
def OpenSpec.upto (s : _root_.Go.ChangeSpec) : _root_.Go.OpenSpec := { _root_.Go.OpenSpec.ofChange s with cond := some uptoSmall }

/-- 'shinglelaw33.RatePlays', WHERE WHAT IT READS IS OF BULK AT MOST 1048576: true; the input reads as it did. -/
def ratePlaysUptoRow : OpenClaim := { program := "ytdfhapcndofbdaa", sum := "13bfaeb4602e70c5fe71b9ca20ee3c3e64892d7eea8078ed17939f0ea794ffac", func := "shingle/shinglelaw33.RatePlays", spec := "ratePlays", unfollowed := true, recurses := true, apart := false, narrowed := true }
def RatePlaysUptoSaid : Prop := ratePlaysUptoRow.holds Try.pinned (OpenSpec.upto ratePlaysSpec)

/-- 'shinglelaw33.RatePicks', WHERE WHAT IT READS IS OF BULK AT MOST 1048576: true; the input reads as it did. -/
def ratePicksUptoRow : OpenClaim := { program := "ytdfhapcndofbdaa", sum := "13bfaeb4602e70c5fe71b9ca20ee3c3e64892d7eea8078ed17939f0ea794ffac", func := "shingle/shinglelaw33.RatePicks", spec := "ratePicks", unfollowed := true, recurses := true, apart := false, narrowed := true }
def RatePicksUptoSaid : Prop := ratePicksUptoRow.holds Try.pinned (OpenSpec.upto ratePicksSpec)

/-- 'shinglelaw33.RateLeast', WHERE WHAT IT READS IS OF BULK AT MOST 1048576: true; the input reads as it did. -/
def rateLeastUptoRow : OpenClaim := { program := "ytdfhapcndofbdaa", sum := "13bfaeb4602e70c5fe71b9ca20ee3c3e64892d7eea8078ed17939f0ea794ffac", func := "shingle/shinglelaw33.RateLeast", spec := "rateLeast", unfollowed := true, recurses := true, apart := false, narrowed := true }
def RateLeastUptoSaid : Prop := rateLeastUptoRow.holds Try.pinned (OpenSpec.upto rateLeastSpec)

/-- 'shinglelaw33.RateStays', WHERE WHAT IT READS IS OF BULK AT MOST 1048576: true; the input reads as it did. -/
def rateStaysUptoRow : OpenClaim := { program := "ytdfhapcndofbdaa", sum := "13bfaeb4602e70c5fe71b9ca20ee3c3e64892d7eea8078ed17939f0ea794ffac", func := "shingle/shinglelaw33.RateStays", spec := "rateStays", unfollowed := true, recurses := true, apart := false, narrowed := true }
def RateStaysUptoSaid : Prop := rateStaysUptoRow.holds Try.pinned (OpenSpec.upto rateStaysSpec)

end Rows
end Go.Proofs.Ytdfhapcndofbdaa
