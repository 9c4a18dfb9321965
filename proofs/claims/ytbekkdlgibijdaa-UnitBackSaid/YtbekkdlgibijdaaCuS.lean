/- A slice of ints among the arguments. -/
import Derived.Test.YtbekkdlgibijdaaCuJ
import Derived.OpenShut
namespace Go.Proofs.Ytbekkdlgibijdaa
open Go.RowKit
/-- What the walk is told of a slice of whole numbers that came in. -/
def IsRow (k : IntKind) (w : World) (a : Option Addr) (len cap : Nat) (zs : List Int) : Prop :=
  (a = none ∧ len = 0 ∧ cap = 0 ∧ zs = []) ∨
  ∃ x, a = some x ∧ len ≤ cap ∧ cap ≤ maxLen ∧ zs.length = cap ∧ (∀ i, i < zs.length → w.cell? (x.add i) = some (.int k (zs.getD i 0))) ∧ ∀ n ∈ zs, (Lit.int k n).wf = true

/-- Its cells at a plain address. -/
theorem IsRow.at {k : IntKind} {w : World} {a : Option Addr} {len cap : Nat} {zs : List Int} (h : IsRow k w a len cap zs) :
    ∃ b off, (len = 0 ∨ a = some ⟨b, off, none⟩) ∧ ∀ i, i < len → w.cell? ⟨b, off + i, none⟩ = some (.int k (zs.getD i 0)) ∧ k.min ≤ zs.getD i 0 ∧ zs.getD i 0 ≤ k.max := by
  rcases h with ⟨rfl, rfl, _, _⟩ | ⟨x, rfl, hl, _, hz, hc, hw⟩
  · exact ⟨0, 0, .inl rfl, fun i h => by omega⟩
  · by_cases h0 : len = 0
    · exact ⟨0, 0, .inl h0, fun i h => by omega⟩
    · obtain ⟨b, off, rfl, hc'⟩ := Go.ints_at hc (by omega)
      refine ⟨b, off, .inr rfl, fun i hi => ⟨hc' i (by omega), ?_⟩⟩
      have := hw (zs.getD i 0) (by rw [List.getD_eq_getElem?_getD, List.getElem?_eq_getElem (by omega)]; simp)
      simpa only [Lit.wf, Bool.and_eq_true, decide_eq_true_eq] using this
theorem IsRow.len {k : IntKind} {w : World} {a : Option Addr} {len cap : Nat} {zs : List Int} (h : IsRow k w a len cap zs) : (len : Int) ≤ 9223372036854775807 := by
  rcases h with ⟨rfl, rfl, _, _⟩ | ⟨x, rfl, hl, hm, _⟩
  · decide
  · unfold maxLen at hm; omega

end Go.Proofs.Ytbekkdlgibijdaa
