/- Opening a struct of four whole numbers that came in by value. -/
import Derived.Test.YtekdhagmmflcnaaOpen
namespace Go.Proofs.Ytekdhagmmflcnaa
open Go.RowKit Go.ChangeShapes Go.WideShapes Go.ChangeAt
variable {H : Type} {enc : TypeId × Value → H} {P : Program} {w : World} {base : Nat} {spare : Nat → Bool} {held : Bool}
theorem arr4 {α : Type} {cs : Array α} (h : cs.size = 4) : ∃ a b c d, cs = #[a, b, c, d] := by
  obtain ⟨l⟩ := cs
  match l, h with
  | [a, b, c, d], _ => exact ⟨a, b, c, d, rfl⟩
theorem open_rect {r : Reach} {b0 : Nat} {t e : TypeId} {f0 f1 f2 f3 : Field} {k : IntKind} {v : Value} {d : DataW H} {p : List MemPlace} (ht : P.underlying t = some (.struct #[f0, f1, f2, f3])) (he : P.underlying e = some (.int k)) (hct : P.cellsOf t = 4) (hce : P.cellsOf e = 1)
    (o0 : f0.offset = 0 ∧ f0.type = e) (o1 : f1.offset = 1 ∧ f1.type = e) (o2 : f2.offset = 2 ∧ f2.type = e) (o3 : f3.offset = 3 ∧ f3.type = e)
    (hv : Value.okWide P w r b0 t v) (h : DataW.Trod enc P w base spare held t v d p) : ∃ a b c g, v = .agg #[.int k a, .int k b, .int k c, .int k g] := by
  obtain ⟨cs, rfl, hsz⟩ := okWide_struct ht hv
  obtain ⟨c0, c1, c2, c3, rfl⟩ := arr4 (hsz.trans hct)
  obtain ⟨fuel, hf⟩ := h
  obtain ⟨y0, y1, y2, y3, m, _, _, h0, h1, h2, h3⟩ := Go.Joins.trod_struct4 ht hf
  rw [o0.1, o0.2, hce] at h0
  rw [o1.1, o1.2, hce] at h1
  rw [o2.1, o2.2, hce] at h2
  rw [o3.1, o3.2, hce] at h3
  obtain ⟨a, e0, _, _⟩ := DataW.trod_int he h0
  obtain ⟨b, e1, _, _⟩ := DataW.trod_int he h1
  obtain ⟨c, e2, _, _⟩ := DataW.trod_int he h2
  obtain ⟨g, e3, _, _⟩ := DataW.trod_int he h3
  simp [Value.cells] at e0 e1 e2 e3
  subst e0 e1 e2 e3
  exact ⟨a, b, c, g, rfl⟩
end Go.Proofs.Ytekdhagmmflcnaa
