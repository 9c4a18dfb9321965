/- Opening a slice of Put structs that came in. -/
import Derived.Test.YtbekkdlgibijdaaCuN
import Derived.ProofKit
import Derived.OpenShut
import Derived.Deep.SlicePairs
namespace Go.Proofs.Ytbekkdlgibijdaa
open Go.RowKit Go.ChangeShapes Go.WideShapes Go.Deep
variable {H : Type} {enc : TypeId × Value → H} {w : World} {base : Nat} {held : Bool}

/-- one Put: its three ints, its slice, the bytes of it -/
structure PutX where
  k : Int
  v : Int
  at_ : Int
  bs : Value
  l : List UInt8
def PutX.ok (w : World) (q : PutX) : Prop := BytesC w q.bs q.l ∧ -9223372036854775808 ≤ q.k ∧ q.k ≤ 9223372036854775807 ∧ -9223372036854775808 ≤ q.v ∧ q.v ≤ 9223372036854775807 ∧ -9223372036854775808 ≤ q.at_ ∧ q.at_ ≤ 9223372036854775807
def PutRow (w : World) (a : Option Addr) (len : Nat) (X : Nat → PutX) : Prop :=
  (len : Int) ≤ 9223372036854775807 ∧ ∃ g off, (len = 0 ∨ a = some ⟨g, off, none⟩) ∧ ∀ i, i < len → w.cell? ⟨g, off + i * 4, none⟩ = some (.int .i64 (X i).k) ∧ w.cell? ⟨g, off + i * 4 + 1, none⟩ = some (.int .i64 (X i).v) ∧ w.cell? ⟨g, off + i * 4 + 2, none⟩ = some (.int .i64 (X i).at_) ∧ w.cell? ⟨g, off + i * 4 + 3, none⟩ = some (X i).bs ∧ (X i).ok w

theorem open_bytes {fuel : Nat} {v : Value} {x : DataW H × List MemPlace} (hf : DataW.trod enc Try.prog w base (fun _ => true) held fuel 22 [v] = some x) : ∃ l, BytesC w v l := by
  rcases open_ints Try.underlying22 Try.underlying5 (by kernel_rfl) hf with ⟨hcs, _⟩ | ⟨x, l, c, zs, hcs, _, hl, hm, hz, _, hcell, hwz⟩
  · simp at hcs
    subst hcs
    exact ⟨[], none, 0, rfl, Nat.le_refl _, fun _ => rfl, 0, 0, .inl rfl, fun j hj => by simp at hj⟩
  · simp at hcs
    subst hcs
    obtain ⟨l', _, hb⟩ := bytes_of_row (w := w) (a := some x) (len := l) (cap := c) (zs := zs) (.inr ⟨_, rfl, hl, hm, by simpa using hz, hcell, hwz⟩)
    exact ⟨l', hb⟩
set_option maxRecDepth 10000 in
theorem open_puts {a : Option Addr} {len cap : Nat} {d : DataW H} {p : List MemPlace} (h : DataW.Trod enc Try.prog w base (fun _ => true) held 44 (.slice a len cap) d p) : ∃ X, PutRow w a len X := by
  obtain ⟨fuel, hf⟩ := h
  rcases open_slice Try.underlying44 hf with ⟨hcs, _⟩ | ⟨x, l, c, m, n, D, Pl, hcs, _, hl, hm, hmm, _, hx⟩
  · simp [Value.cells] at hcs
    obtain ⟨rfl, rfl, rfl⟩ := hcs
    exact ⟨fun _ => ⟨0, 0, 0, .bool false, []⟩, by decide, 0, 0, .inl rfl, fun i hi => by omega⟩
  · simp [Value.cells] at hcs
    obtain ⟨rfl, rfl, rfl⟩ := hcs
    have hlm : len ≤ m := by rw [hmm]; split <;> omega
    have hbig : (len : Int) ≤ 9223372036854775807 := by unfold maxLen at hm; omega
    have key : ∀ i, ∃ q : PutX, i < len → w.cell? (x.add (i * 4)) = some (.int .i64 q.k) ∧ w.cell? (x.add (i * 4 + 1)) = some (.int .i64 q.v) ∧ w.cell? (x.add (i * 4 + 2)) = some (.int .i64 q.at_) ∧ w.cell? (x.add (i * 4 + 3)) = some q.bs ∧ q.ok w := by
      intro i
      by_cases hi : i < len
      · obtain ⟨cs', h1, h2⟩ := hx i (by omega)
        rw [show Try.prog.cellsOf 49 = 4 by kernel_rfl] at h1
        obtain ⟨_, hlen, hcell⟩ := World.cells?_some h1
        obtain ⟨xs, k, hk, hxy, _, hxl, hfs⟩ := DataW.trod_struct Try.underlying49 h2
        match xs, hxl, cs', hlen with
        | [y0, y1, y2, y3], _, [v0, v1, v2, v3], _ =>
          have g0 := hfs 0 _ rfl
          have g1 := hfs 1 _ rfl
          have g2 := hfs 2 _ rfl
          have g3 := hfs 3 _ rfl
          have c3 : Try.prog.cellsOf 3 = 1 := by kernel_rfl
          have c22 : Try.prog.cellsOf 22 = 1 := by kernel_rfl
          simp [c3, c22] at g0 g1 g2 g3
          obtain ⟨k0, e0, _, wf0⟩ := DataW.trod_int Try.underlying3 g0
          obtain ⟨k1, e1, _, wf1⟩ := DataW.trod_int Try.underlying3 g1
          obtain ⟨k2, e2, _, wf2⟩ := DataW.trod_int Try.underlying3 g2
          obtain ⟨l3, hb⟩ := open_bytes g3
          have e0' : v0 = .int .i64 k0 := by simpa using e0
          have e1' : v1 = .int .i64 k1 := by simpa using e1
          have e2' : v2 = .int .i64 k2 := by simpa using e2
          simp only [Lit.wf, Bool.and_eq_true, decide_eq_true_eq] at wf0 wf1 wf2
          have b0 := hcell 0 (by omega)
          have b1 := hcell 1 (by omega)
          have b2 := hcell 2 (by omega)
          have b3 := hcell 3 (by omega)
          rw [add_add] at b0 b1 b2 b3
          exact ⟨⟨k0, k1, k2, v3, l3⟩, fun _ => ⟨by simpa [e0'] using b0, by simpa [e1'] using b1, by simpa [e2'] using b2, by simpa using b3, hb, wf0.1, wf0.2, wf1.1, wf1.2, wf2.1, wf2.2⟩⟩
      · exact ⟨⟨0, 0, 0, .bool false, []⟩, fun h => absurd h hi⟩
    obtain ⟨Q, hQ⟩ := Classical.axiomOfChoice key
    by_cases h0 : len = 0
    · exact ⟨Q, hbig, 0, 0, .inl h0, fun i hi => by omega⟩
    · obtain ⟨b, off, spot⟩ := x
      have hspot : spot = none := by simpa [Addr.add] using World.cell?_spot (hQ 0 (by omega)).1
      subst hspot
      refine ⟨Q, hbig, b, off, .inr rfl, fun i hi => ?_⟩
      obtain ⟨c0, c1, c2, c3, r⟩ := hQ i hi
      rw [add_plain] at c0 c1 c2 c3
      exact ⟨c0, by rw [Nat.add_assoc]; exact c1, by rw [Nat.add_assoc]; exact c2, by rw [Nat.add_assoc]; exact c3, r⟩
end Go.Proofs.Ytbekkdlgibijdaa
