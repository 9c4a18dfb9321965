/- The walk of the law LutStays: it returns true. -/
import Derived.Test.YtinbiggchjhilaaFactorsW
import Derived.OpenShut
namespace Go.Proofs.Ytinbiggchjhilaa
open Go.RowKit

/-- What the walk is told of a slice of whole numbers that came in. -/
def IsRow (k : IntKind) (w : World) (a : Option Addr) (len cap : Nat) (zs : List Int) : Prop :=
  (a = none ∧ len = 0 ∧ cap = 0 ∧ zs = []) ∨
  ∃ x, a = some x ∧ len ≤ cap ∧ cap ≤ maxLen ∧ zs.length = cap ∧ (∀ i, i < zs.length → w.cell? (x.add i) = some (.int k (zs.getD i 0))) ∧ ∀ n ∈ zs, (Lit.int k n).wf = true

/-- Its cells at a plain address. -/
theorem IsRow.at {k : IntKind} {w : World} {a : Option Addr} {len cap : Nat} {zs : List Int} (h : IsRow k w a len cap zs) :
    ∃ b off, (len = 0 ∨ a = some ⟨b, off, none⟩) ∧ ∀ i, i < len → w.cell? ⟨b, off + i, none⟩ = some (.int k (zs.getD i 0)) ∧ k.min ≤ zs.getD i 0 ∧ zs.getD i 0 ≤ k.max := by
  rcases h with ⟨rfl, rfl, _, _⟩ | ⟨x, rfl, hl, _, hz, hc, hw⟩
  · exact ⟨0, 0, .inl rfl, fun i h => by omega⟩
  · by_cases h0 : len = 0
    · exact ⟨0, 0, .inl h0, fun i h => by omega⟩
    · obtain ⟨b, off, rfl, hc'⟩ := Go.ints_at hc (by omega)
      refine ⟨b, off, .inr rfl, fun i hi => ⟨hc' i (by omega), ?_⟩⟩
      have := hw (zs.getD i 0) (by rw [List.getD_eq_getElem?_getD, List.getElem?_eq_getElem (by omega)]; simp)
      simpa only [Lit.wf, Bool.and_eq_true, decide_eq_true_eq] using this
theorem IsRow.len {k : IntKind} {w : World} {a : Option Addr} {len cap : Nat} {zs : List Int} (h : IsRow k w a len cap zs) : (len : Int) ≤ 9223372036854775807 := by
  rcases h with ⟨rfl, rfl, _, _⟩ | ⟨x, rfl, hl, hm, _⟩
  · decide
  · unfold maxLen at hm; omega
end Go.Proofs.Ytinbiggchjhilaa

namespace Go.Proofs.Ytinbiggchjhilaa.lutStays
open Go.RowKit

theorem less_tab : ∀ i : Fin 256, 252 ≤ max 252 (256 * (i.val : Int)) - stepI i.val := by decide +kernel
theorem more_tab : ∀ i : Fin 256, min 65283 (256 * (i.val : Int) + 255) + stepI (255 - i.val) ≤ 65283 := by decide +kernel
theorem near_id {p : Int} (h0 : 252 ≤ p) (h1 : p ≤ 65283) : nearI p = p := by unfold nearI; rw [if_neg (by omega), if_neg (by omega)]
theorem less_stays {p : Int} (h0 : 252 ≤ p) (h1 : p ≤ 65283) : 252 ≤ lessI p ∧ lessI p ≤ 65283 := by
  unfold lessI
  rw [near_id h0 h1]
  have hs := stepI_bd (p / 256)
  have ht := less_tab ⟨(p / 256).toNat, by omega⟩
  have e : (((p / 256).toNat : Nat) : Int) = p / 256 := by omega
  simp only [e] at ht
  omega
theorem more_stays {p : Int} (h0 : 252 ≤ p) (h1 : p ≤ 65283) : 252 ≤ moreI p ∧ moreI p ≤ 65283 := by
  unfold moreI
  rw [near_id h0 h1]
  have hs := stepI_bd (255 - p / 256)
  have ht := more_tab ⟨(p / 256).toNat, by omega⟩
  have e : (((p / 256).toNat : Nat) : Int) = p / 256 := by omega
  simp only [e] at ht
  omega
/-- the factor ahead -/
def lastI (k : Nat) : Int := if k = 0 then 0 else facI ((k : Int) - 1)
theorem last_succ (k : Nat) : lastI (k + 1) = facI k := by unfold lastI; rw [if_neg (by omega)]; congr 1; omega
theorem fac_tab : ∀ i : Fin 61, lastI i.val < facI i.val ∧ offI i.val false < facI i.val ∧ offI i.val true < facI i.val := by decide +kernel
attribute [irreducible] lastI

set_option maxRecDepth 100000 in
set_option maxHeartbeats 2000000 in
theorem walk (w : World) (a0 : Option Addr) (len0 cap0 : Nat) (z0 : List Int) (w0 : IsRow .u8 w a0 len0 cap0 z0) :
    Calls Try.prog 5 #[.slice a0 len0 cap0] w fun e w' => e = .returned (.bool true) ∧ Below w.heap.size w w' := by
  have hlen := w0.len
  obtain ⟨b, off, hx, HC⟩ := w0.at
  have hmin : IntKind.u8.min = 0 := rfl
  have hmax : IntKind.u8.max = 255 := rfl
  rw [hmin, hmax] at HC
  clear hmin hmax
  have HC1 := Lib.hid HC
  have HX := Lib.hid hx
  clear hx w0 HC
  go_enter Try.func5, Try.ntmps5
  go_wp2_with (go_at_call 9; refine (first04 _).mono ?_; rintro e w0 ⟨rfl, hb0⟩)
  go_loop [3, 14] (fun p i => ∃ (k : Nat) (c : Int), k ≤ len0 ∧ 252 ≤ c ∧ c ≤ 65283 ∧ p = .int .i64 c ∧ i = .int .i64 k) (fun _ i => (len0 - intOf i).toNat)
  case atStart => exact ⟨0, 32768, by omega, by omega, by omega, rfl, rfl⟩
  case round =>
    obtain ⟨k, c, hk, hc0, hc1, rfl, rfl⟩ := hrel
    by_cases hlt : k < len0
    · obtain ⟨hn', hn0, hn1⟩ := HC1.out k hlt
      have hn := (hb0.cell (block_lt_of_cell hn')).trans hn'
      clear hn'
      generalize z0.getD k 0 = n at hn hn0 hn1
      obtain rfl : a0 = some ⟨b, off, none⟩ := by
        rcases HX.out with h | h
        · omega
        · exact h
      by_cases h3 : (k : Int) < 3000
      · go_wp2
        go_loop [3, 21] (fun p i => ∃ (j : Nat) (c : Int), j ≤ 8 ∧ 252 ≤ c ∧ c ≤ 65283 ∧ p = .int .i64 c ∧ i = .int .i64 j) (fun _ i => (8 - intOf i).toNat)
        case atStart => exact ⟨0, c, by omega, hc0, hc1, rfl, rfl⟩
        case round =>
          clear hc0 hc1
          obtain ⟨j, c, hj, hc0, hc1, rfl, rfl⟩ := hrel
          by_cases hj8 : j < 8
          · obtain ⟨l0, l1⟩ := less_stays hc0 hc1
            obtain ⟨m0, m1⟩ := more_stays hc0 hc1
            go_wp2_with (first | (go_at_call 15; refine (more_any _ _).mono ?_; rintro e w' ⟨rfl, rfl⟩) | (go_at_call 13; refine (less_any _ _).mono ?_; rintro e w' ⟨rfl, rfl⟩))
            all_goals
              go_round
              case rel => exact ⟨j + 1, _, by omega, by assumption, by assumption, rfl, by go_num⟩
              case measure => simp [intOf]; omega
          · go_wp2
            go_round
            case rel => exact ⟨k + 1, c, by omega, hc0, hc1, rfl, by go_num⟩
            case measure => simp [intOf]; omega
      · clear hc0 hc1
        go_wp2_with (go_at_call 17; refine (factors_any _).mono ?_; rintro e w1 ⟨v, rfl, hown, hb1⟩; obtain ⟨g, cap, rfl⟩ := own_form hown (by decide))
        have hB : Below w.heap.size w w1 := below2 hb0 hb1
        have hcells : ∀ j, j < 61 → w1.cell? ⟨g, j, none⟩ = some (.int .i64 (facI j)) := fun j hj => (own_cell hown hj).trans (facs_get hj)
        have HC := Lib.hid hcells
        clear hb0 hb1 hown hcells
        have hl0 : lastI 0 = 0 := by unfold lastI; rfl
        have HL := Lib.hid hl0
        clear hl0
        go_loopw [7, 43] (fun l i wr => ∃ k : Nat, k ≤ 61 ∧ i = .int .i64 k ∧ l = .int .i64 (lastI k) ∧ Below w1.heap.size w1 wr) (fun _ i _ => (61 - intOf i).toNat)
        case atStart => exact ⟨0, by omega, rfl, by rw [HL.out], Below.refl _ _⟩
        case round =>
          obtain ⟨k, hk, rfl, rfl, hBr⟩ := hrel
          by_cases hlt : k < 61
          · have hc' := HC.out k hlt
            have hc := (hBr.cell (block_lt_of_cell hc')).trans hc'
            clear hc'
            obtain ⟨f1, f2, f3⟩ := fac_tab ⟨k, hlt⟩
            simp only [] at f1 f2 f3
            go_wp2_with (go_at_call 20; refine (offset_any _ _ _).mono ?_; rintro e w2 ⟨rfl, hb2⟩; have hBr := below2 hBr hb2; clear hb2)
            go_roundw
            case rel => exact ⟨k + 1, by omega, by go_num, by rw [last_succ], hBr⟩
            case measure => simp [intOf]; omega
          · go_wp2
            go_ret
            exact ⟨rfl, below2 hB hBr⟩
    · clear hc0 hc1
      go_wp2_with (go_at_call 17; refine (factors_any _).mono ?_; rintro e w1 ⟨v, rfl, hown, hb1⟩; obtain ⟨g, cap, rfl⟩ := own_form hown (by decide))
      have hB : Below w.heap.size w w1 := below2 hb0 hb1
      have hcells : ∀ j, j < 61 → w1.cell? ⟨g, j, none⟩ = some (.int .i64 (facI j)) := fun j hj => (own_cell hown hj).trans (facs_get hj)
      have HC := Lib.hid hcells
      clear hb0 hb1 hown hcells
      have hl0 : lastI 0 = 0 := by unfold lastI; rfl
      have HL := Lib.hid hl0
      clear hl0
      go_loopw [7, 43] (fun l i wr => ∃ k : Nat, k ≤ 61 ∧ i = .int .i64 k ∧ l = .int .i64 (lastI k) ∧ Below w1.heap.size w1 wr) (fun _ i _ => (61 - intOf i).toNat)
      case atStart => exact ⟨0, by omega, rfl, by rw [HL.out], Below.refl _ _⟩
      case round =>
        obtain ⟨k, hk, rfl, rfl, hBr⟩ := hrel
        by_cases hlt : k < 61
        · have hc' := HC.out k hlt
          have hc := (hBr.cell (block_lt_of_cell hc')).trans hc'
          clear hc'
          obtain ⟨f1, f2, f3⟩ := fac_tab ⟨k, hlt⟩
          simp only [] at f1 f2 f3
          go_wp2_with (go_at_call 20; refine (offset_any _ _ _).mono ?_; rintro e w2 ⟨rfl, hb2⟩; have hBr := below2 hBr hb2; clear hb2)
          go_roundw
          case rel => exact ⟨k + 1, by omega, by go_num, by rw [last_succ], hBr⟩
          case measure => simp [intOf]; omega
        · go_wp2
          go_ret
          exact ⟨rfl, below2 hB hBr⟩
end Go.Proofs.Ytinbiggchjhilaa.lutStays
