/- What a split reads as; the fixed units of the laws' first line. -/
import Derived.Test.YtbekkdlgibijdaaUnO
namespace Go.Proofs.Ytbekkdlgibijdaa
open Go.RowKit

theorem rowU_get (xs : List UX) : ∀ (i t : Nat) (hi : i < xs.length), t < 2 → (rowU xs)[i * 2 + t]? = (cellU xs[i])[t]? := by
  induction xs with
  | nil => intro i t hi; simp at hi
  | cons x xs ih =>
    intro i t hi ht
    show (cellU x ++ rowU xs)[i * 2 + t]? = _
    have hl : (cellU x).length = 2 := rfl
    cases i with
    | zero => rw [List.getElem?_append_left (by omega)]; simp
    | succ i =>
      rw [List.getElem?_append_right (by omega), hl, show (i + 1) * 2 + t - 2 = i * 2 + t by omega]
      have hi' : i < xs.length := by simpa using hi
      rw [ih i t hi' ht]
      rfl
def plainU (xs : List UX) : US := xs.map fun x => ((x.1.1 : Int), x.1.2)
theorem plain_len (xs : List UX) : (plainU xs).length = xs.length := by simp [plainU]
theorem same_of_split {w : World} {base lo : Nat} {v : Value} {xs : List UX} (h : w.ownsRow base 66 2 v xs.length (rowU xs)) (hG : ∀ x ∈ xs, UG lo x w) : ∃ A cap, v = .slice A (plainU xs).length cap ∧ SameRow w A (plainU xs) := by
  rw [plain_len]
  rcases h.2 with ⟨hv, h0⟩ | ⟨g, cap, cur, hv, hg, hh, hn, hm, hsz, ht⟩
  · exact ⟨none, 0, by rw [hv, h0], 0, 0, .inl (by rw [← List.length_eq_zero_iff, plain_len]; exact h0), fun i hi => by rw [plain_len] at hi; omega⟩
  · refine ⟨_, cap, hv, g, 0, .inr rfl, fun i hi => ?_⟩
    have hi' : i < xs.length := by rwa [plain_len] at hi
    have key : ∀ t, t < 2 → w.cell? ⟨g, i * 2 + t, none⟩ = (cellU xs[i])[t]? := fun t ht2 => by
      rw [cell_of_row _ _ _ _ _ _ hh, ← rowU_get xs i t hi' ht2, ← ht, List.getElem?_take_of_lt (by omega)]
      simp
    have k0 := key 0 (by decide)
    have k1 := key 1 (by decide)
    rw [Nat.zero_add]
    refine ⟨?_, xs[i].2, ?_, ?_⟩
    · rw [show i * 2 = i * 2 + 0 by omega, k0]; simp [plainU, cellU]
    · rw [k1]; rfl
    · have := (hG xs[i] (List.getElem_mem _)).reads
      simpa [plainU] using this
theorem same_of_info {w : World} {a : Option Addr} {len : Nat} {X : Nat → InfX} (h : InfoRow w a len X) : SameRow w a ((List.range len).map (uOf X)) := by
  obtain ⟨_, g, off, ha, hx⟩ := h
  refine ⟨g, off, ha.imp (fun e => by rw [e]; rfl) id, fun i hi => ?_⟩
  have hi' : i < len := by simpa using hi
  obtain ⟨c0, c1, c2, _⟩ := hx i hi'
  refine ⟨by rw [c0]; simp [uOf], _, c1, ?_⟩
  have := c2.reads
  simpa [uOf] using this

/-! The fixed units. -/
def U0 (i : Nat) : Int × List UInt8 := if i = 0 then (0, [1, 2]) else (13, [])
def b41 : List UInt8 := outJ U0 2
theorem b41_len : b41.length = 41 := by decide +kernel
theorem ok0 : ∀ k, k < 2 → okJ U0 k := fun k hk => by
  rcases (by omega : k = 0 ∨ k = 1) with rfl | rfl
  · exact ⟨by decide +kernel, by decide +kernel, by decide +kernel⟩
  · exact ⟨by decide +kernel, by decide +kernel, by decide +kernel⟩
theorem cnt0 : CountU b41 2 := by
  refine ⟨fun j hj => ?_, fun h => ?_⟩
  · rcases (by omega : j = 0 ∨ j = 1) with rfl | rfl
    · exact ⟨by decide +kernel, by decide +kernel⟩
    · exact ⟨by decide +kernel, by decide +kernel⟩
  · exact absurd h.2 (by decide +kernel)
theorem els0 : ((List.range 2).map (elU b41)) = [(0, [1, 2]), (13, [])] := by decide +kernel
theorem split0 : splitE b41 2 = 0 := by decide +kernel
theorem cnt1 : CountU (nextB b41 0 14) 0 := by
  refine ⟨fun j hj => by omega, fun h => ?_⟩
  exact absurd h.1 (by decide +kernel)
theorem split1 : splitE (nextB b41 0 14) 0 = 30 := by decide +kernel
end Go.Proofs.Ytbekkdlgibijdaa
