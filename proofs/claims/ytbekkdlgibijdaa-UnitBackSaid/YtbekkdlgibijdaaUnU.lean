/- Opening a slice of units that came in. -/
import Derived.Test.YtbekkdlgibijdaaUnN
import Derived.Test.YtbekkdlgibijdaaPuO
import Derived.SizedLaws
namespace Go.Proofs.Ytbekkdlgibijdaa
open Go.RowKit Go.ChangeShapes Go.WideShapes Go.Deep
variable {H : Type} {enc : TypeId × Value → H} {w : World} {base : Nat} {held : Bool}

theorem weightsAll_mem {P : Program} {e : TypeId} : ∀ {ds : List (DataW H)} {d : DataW H}, d ∈ ds → ∀ n ∈ d.weights P e, n ∈ DataW.weightsAll P e ds
  | d0 :: ds, d, hd, n, hn => by
    simp only [DataW.weightsAll, List.mem_append]
    rcases List.mem_cons.1 hd with rfl | h
    · exact .inl hn
    · exact .inr (weightsAll_mem h n hn)
theorem bytes5 : Try.prog.bytesOf 5 = 1 := by kernel_rfl
theorem sized_bytes {fuel : Nat} {v : Value} {d : DataW H} {p : List MemPlace} (hf : DataW.trod enc Try.prog w base (fun _ => true) held fuel 22 [v] = some (d, p)) (hs : ∀ n ∈ d.weights Try.prog 22, n ≤ reachBytes) : ∃ l, BytesC w v l ∧ l.length ≤ 140737488355328 := by
  rcases open_ints Try.underlying22 Try.underlying5 (by kernel_rfl) hf with ⟨hcs, _⟩ | ⟨x, l, c, zs, hcs, _, hl, hm, hz, hd, hcell, hwz⟩
  · simp at hcs
    subst hcs
    exact ⟨[], ⟨none, 0, rfl, Nat.le_refl _, fun _ => rfl, 0, 0, .inl rfl, fun j hj => by simp at hj⟩, by simp⟩
  · simp at hcs
    subst hcs
    obtain ⟨l', hl', hb⟩ := bytes_of_row (w := w) (a := some x) (len := l) (cap := c) (zs := zs) (.inr ⟨_, rfl, hl, hm, by simpa using hz, hcell, hwz⟩)
    refine ⟨l', hb, ?_⟩
    cases hd
    have := hs ((zs.take l).length + (zs.drop l).length) (by simp [DataW.weights, Try.underlying22, bytes5, lits])
    have hz' : zs.length = c := by simpa using hz
    simp only [List.length_take, List.length_drop, reachBytes] at this
    omega
set_option maxRecDepth 10000 in
theorem open_infos {a : Option Addr} {len cap : Nat} {d : DataW H} {p : List MemPlace} (h : DataW.Trod enc Try.prog w base (fun _ => true) held 73 (.slice a len cap) d p) (hs : ∀ n ∈ d.weights Try.prog 73, n ≤ reachBytes) : ∃ X, InfoRow w a len X := by
  obtain ⟨fuel, hf⟩ := h
  rcases open_slice_pairs Try.underlying73 Try.underlying66 (by kernel_rfl) rfl rfl (by kernel_rfl) (by kernel_rfl) hf with ⟨hcs, _⟩ | ⟨x, l, c, m, n, V0, V1, D0, D1, P0, P1, hcs, _, hl, hm, hmm, hd, hx⟩
  · simp [Value.cells] at hcs
    obtain ⟨rfl, rfl, rfl⟩ := hcs
    exact ⟨fun _ => ⟨0, .bool false, []⟩, by decide, 0, 0, .inl rfl, fun i hi => by omega⟩
  · simp [Value.cells] at hcs
    obtain ⟨rfl, rfl, rfl⟩ := hcs
    have hlm : len ≤ m := by rw [hmm]; split <;> omega
    have hbig : (len : Int) ≤ 9223372036854775807 := by unfold maxLen at hm; omega
    cases hd
    have key : ∀ i, ∃ q : InfX, i < len → w.cell? (x.add (i * 2)) = some (.int .i64 q.c) ∧ w.cell? (x.add (i * 2 + 1)) = some q.bs ∧ q.ok w := by
      intro i
      by_cases hi : i < len
      · obtain ⟨c0, c1, g0, g1⟩ := hx i (by omega)
        obtain ⟨k0, e0, _, wf0⟩ := DataW.trod_int Try.underlying3 g0
        have hD : DataW.agg [D0 i, D1 i] ∈ (List.range len).map (fun i => DataW.agg [D0 i, D1 i]) := List.mem_map.2 ⟨i, List.mem_range.2 hi, rfl⟩
        obtain ⟨l1, hb, hl1⟩ := sized_bytes g1 (fun n hn => hs n (by
          simp only [DataW.weights, Try.underlying73, List.mem_cons, List.mem_append]
          refine .inr (.inl (weightsAll_mem hD n ?_))
          simp only [DataW.weights, Try.underlying66]
          exact DataW.weights_mem_each (j := 1) rfl rfl n hn))
        have e0' : V0 i = .int .i64 k0 := by simpa using e0
        simp only [Lit.wf, Bool.and_eq_true, decide_eq_true_eq] at wf0
        rw [e0'] at c0
        exact ⟨⟨k0, V1 i, l1⟩, fun _ => ⟨c0, c1, hb, wf0.1, wf0.2, hl1⟩⟩
      · exact ⟨⟨0, .bool false, []⟩, fun h => absurd h hi⟩
    obtain ⟨Q, hQ⟩ := Classical.axiomOfChoice key
    by_cases h0 : len = 0
    · exact ⟨Q, hbig, 0, 0, .inl h0, fun i hi => by omega⟩
    · obtain ⟨b, off, spot⟩ := x
      have hspot : spot = none := by simpa [Addr.add] using World.cell?_spot (hQ 0 (by omega)).1
      subst hspot
      refine ⟨Q, hbig, b, off, .inr rfl, fun i hi => ?_⟩
      obtain ⟨c0, c1, r⟩ := hQ i hi
      rw [add_plain] at c0 c1
      exact ⟨c0, by rw [Nat.add_assoc]; exact c1, r⟩
end Go.Proofs.Ytbekkdlgibijdaa
