/- Opening a slice of structs of two whole numbers that came in. -/
import Derived.Test.YtbekkdlgibijdaaRows
import Derived.ProofKit
import Derived.OpenShut
import Derived.Deep.SlicePairs
namespace Go.Proofs.Ytbekkdlgibijdaa
open Go.RowKit Go.ChangeShapes Go.WideShapes Go.Deep
variable {H : Type} {enc : TypeId × Value → H} {w : World} {base : Nat} {spare : Nat → Bool} {held : Bool}

theorem open_script {a : Option Addr} {len cap : Nat} {d : DataW H} {p : List MemPlace} (h : DataW.Trod enc Try.prog w base spare held 23 (.slice a len cap) d p) :
    ∃ K N : Nat → Int, (len : Int) ≤ 9223372036854775807 ∧ ∃ g off, (len = 0 ∨ a = some ⟨g, off, none⟩) ∧ ∀ i, i < len → w.cell? ⟨g, off + i * 2, none⟩ = some (.int .i64 (K i)) ∧ w.cell? ⟨g, off + i * 2 + 1, none⟩ = some (.int .i64 (N i)) ∧ -9223372036854775808 ≤ K i ∧ K i ≤ 9223372036854775807 ∧ -9223372036854775808 ≤ N i ∧ N i ≤ 9223372036854775807 := by
  obtain ⟨fuel, hf⟩ := h
  rcases open_slice_pairs Try.underlying23 Try.underlying31 (by kernel_rfl) rfl rfl (by kernel_rfl) (by kernel_rfl) hf with ⟨hcs, _⟩ | ⟨x, l, c, m, n, V0, V1, D0, D1, P0, P1, hcs, _, hl, hm, hmm, _, hx⟩
  · simp [Value.cells] at hcs
    obtain ⟨rfl, rfl, rfl⟩ := hcs
    exact ⟨fun _ => 0, fun _ => 0, by decide, 0, 0, .inl rfl, fun i hi => by omega⟩
  · simp [Value.cells] at hcs
    obtain ⟨rfl, rfl, rfl⟩ := hcs
    have hlm : len ≤ m := by rw [hmm]; split <;> omega
    have hbig : (len : Int) ≤ 9223372036854775807 := by unfold maxLen at hm; omega
    have key : ∀ i, ∃ q : Int × Int, i < len → w.cell? (x.add (i * 2)) = some (.int .i64 q.1) ∧ w.cell? (x.add (i * 2 + 1)) = some (.int .i64 q.2) ∧ -9223372036854775808 ≤ q.1 ∧ q.1 ≤ 9223372036854775807 ∧ -9223372036854775808 ≤ q.2 ∧ q.2 ≤ 9223372036854775807 := by
      intro i
      by_cases hi : i < len
      · obtain ⟨c0, c1, t0, t1⟩ := hx i (by omega)
        obtain ⟨k0, e0, _, wf0⟩ := DataW.trod_int Try.underlying3 t0
        obtain ⟨k1, e1, _, wf1⟩ := DataW.trod_int Try.underlying3 t1
        have e0' : V0 i = .int .i64 k0 := by simpa using e0
        have e1' : V1 i = .int .i64 k1 := by simpa using e1
        simp only [Lit.wf, Bool.and_eq_true, decide_eq_true_eq] at wf0 wf1
        exact ⟨(k0, k1), fun _ => ⟨by rw [c0, e0'], by rw [c1, e1'], wf0.1, wf0.2, wf1.1, wf1.2⟩⟩
      · exact ⟨(0, 0), fun h => absurd h hi⟩
    obtain ⟨Q, hQ⟩ := Classical.axiomOfChoice key
    by_cases h0 : len = 0
    · exact ⟨fun _ => 0, fun _ => 0, hbig, 0, 0, .inl h0, fun i hi => by omega⟩
    · obtain ⟨b, off, spot⟩ := x
      have hspot : spot = none := by simpa [Addr.add] using World.cell?_spot (hQ 0 (by omega)).1
      subst hspot
      refine ⟨fun i => (Q i).1, fun i => (Q i).2, hbig, b, off, .inr rfl, fun i hi => ?_⟩
      obtain ⟨c0, c1, r⟩ := hQ i hi
      rw [add_plain] at c0 c1
      exact ⟨c0, by rw [Nat.add_assoc]; exact c1, r⟩
end Go.Proofs.Ytbekkdlgibijdaa
