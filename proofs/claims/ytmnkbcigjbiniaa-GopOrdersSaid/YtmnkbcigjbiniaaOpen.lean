/- Opening a struct of two whole numbers that came in by value. -/
import Derived.Test.YtmnkbcigjbiniaaRows
import Derived.ProofKit
import Derived.OpenShut
import Derived.Lib.SmallJoins
namespace Go.Proofs.Ytmnkbcigjbiniaa
open Go.RowKit Go.ChangeShapes Go.WideShapes
variable {H : Type} {enc : TypeId × Value → H} {P : Program} {w : World} {base : Nat} {spare : Nat → Bool} {held : Bool}
theorem arr2 {α : Type} {cs : Array α} (h : cs.size = 2) : ∃ a b, cs = #[a, b] := by
  obtain ⟨l⟩ := cs
  match l, h with
  | [a, b], _ => exact ⟨a, b, rfl⟩
theorem open_pair {r : Reach} {b0 : Nat} {t e : TypeId} {f0 f1 : Field} {k : IntKind} {v : Value} {d : DataW H} {p : List MemPlace} (ht : P.underlying t = some (.struct #[f0, f1])) (he : P.underlying e = some (.int k)) (hct : P.cellsOf t = 2) (hce : P.cellsOf e = 1)
    (o0 : f0.offset = 0 ∧ f0.type = e) (o1 : f1.offset = 1 ∧ f1.type = e)
    (hv : Value.okWide P w r b0 t v) (h : DataW.Trod enc P w base spare held t v d p) : ∃ a b, v = .agg #[.int k a, .int k b] ∧ (Lit.int k a).wf = true ∧ (Lit.int k b).wf = true := by
  obtain ⟨cs, rfl, hsz⟩ := okWide_struct ht hv
  obtain ⟨c0, c1, rfl⟩ := arr2 (hsz.trans hct)
  obtain ⟨fuel, hf⟩ := h
  obtain ⟨y0, y1, m, _, _, h0, h1⟩ := trod_struct2 ht hf
  rw [o0.1, o0.2, hce] at h0
  rw [o1.1, o1.2, hce] at h1
  obtain ⟨a, e0, _, wa⟩ := DataW.trod_int he h0
  obtain ⟨b, e1, _, wb⟩ := DataW.trod_int he h1
  simp [Value.cells] at e0 e1
  subst e0 e1
  exact ⟨a, b, rfl, wa, wb⟩
end Go.Proofs.Ytmnkbcigjbiniaa
