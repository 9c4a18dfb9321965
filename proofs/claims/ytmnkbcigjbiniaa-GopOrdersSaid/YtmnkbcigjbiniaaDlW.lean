/- The contract of gop.Delay. -/
import Derived.Test.YtmnkbcigjbiniaaDlM
import Derived.Test.YtmnkbcigjbiniaaGpR
namespace Go.Proofs.Ytmnkbcigjbiniaa
open Go.RowKit
open Go.Maps (int_keyed)

theorem rowX_get : ∀ (xs : List ShX) (i : Nat) (x : ShX), xs[i]? = some x → ∀ t, t < 4 → (rowX xs)[i * 4 + t]? = (cellX x)[t]? := by
  intro xs
  induction xs with
  | nil => intro i x h; simp at h
  | cons y r ih =>
    intro i x h t ht
    have e : rowX (y :: r) = cellX y ++ rowX r := rfl
    rw [e]
    cases i with
    | zero =>
      rw [List.getElem?_cons_zero] at h
      cases h
      rw [List.getElem?_append_left (by simp [cellX]; omega)]
      simp
    | succ i =>
      rw [List.getElem?_cons_succ] at h
      rw [List.getElem?_append_right (by simp [cellX]; omega)]
      have := ih i x h t ht
      rw [← this]
      congr 1
      simp [cellX]; omega
/-- A slice of shots that may be read. -/
structure ShRow (w : World) (A : Option Addr) (xs : List ShX) : Prop where
  ok : ∃ g, (xs = [] ∨ A = some ⟨g, 0, none⟩) ∧ ∀ i x, xs[i]? = some x → ∀ t, t < 4 → w.cell? ⟨g, i * 4 + t, none⟩ = (cellX x)[t]?
  slices : ∀ x ∈ xs, ∃ B m c, x.2 = .slice B m c
theorem ShRow.later {w w' : World} {A : Option Addr} {xs : List ShX} (h : ShRow w A xs) (hb : Below w.heap.size w w') : ShRow w' A xs := by
  obtain ⟨⟨g, h1, h2⟩, h3⟩ := h
  refine ⟨⟨g, h1, fun i x hx t ht => ?_⟩, h3⟩
  have := h2 i x hx t ht
  obtain ⟨u, hu⟩ : ∃ u, (cellX x)[t]? = some u := ⟨_, List.getElem?_eq_getElem (by simp [cellX]; omega)⟩
  rw [hu] at this ⊢
  exact cell_later this hb
theorem ShRow.at {w : World} {A : Option Addr} {xs : List ShX} (h : ShRow w A xs) {k : Nat} (hk : k < xs.length) :
    ∃ g B m c, A = some ⟨g, 0, none⟩ ∧ w.cell? ⟨g, k * 4, none⟩ = some (.int .i64 xs[k].1.num) ∧ w.cell? ⟨g, k * 4 + 1, none⟩ = some (.slice B m c) ∧ w.cell? ⟨g, k * 4 + 2, none⟩ = some (.bool xs[k].1.kept) ∧ w.cell? ⟨g, k * 4 + 3, none⟩ = some (.int .i64 xs[k].1.ret) ∧ xs[k].2 = .slice B m c := by
  obtain ⟨⟨g, h1, h2⟩, h3⟩ := h
  obtain ⟨B, m, c, e⟩ := h3 xs[k] (List.getElem_mem hk)
  have hx : xs[k]? = some xs[k] := List.getElem?_eq_getElem hk
  refine ⟨g, B, m, c, ?_, h2 k _ hx 0 (by omega), ?_, h2 k _ hx 2 (by omega), h2 k _ hx 3 (by omega), e⟩
  · rcases h1 with h1 | h1
    · subst h1; simp at hk
    · exact h1
  · have := h2 k _ hx 1 (by omega)
    rw [this]
    simp [cellX, e]
def numsX (xs : List ShX) : List Int := xs.map (fun x => x.1.num)
theorem numsX_get {xs : List ShX} {k : Nat} (hk : k < xs.length) : (numsX xs)[k]? = some xs[k].1.num := by simp [numsX, hk]
theorem take_snoc' {l : List Int} {k : Nat} {x : Int} (h : l[k]? = some x) : l.take (k + 1) = l.take k ++ [x] := by
  rw [List.take_add_one, h]; rfl

set_option maxRecDepth 20000 in
set_option maxHeartbeats 2000000 in
theorem delay_any (xs : List ShX) (A : Option Addr) (cap : Nat) (w : World) (hrow : ShRow w A xs) (hlen : xs.length ≤ 1000) (hnum : ∀ x ∈ numsX xs, -1099511627776 ≤ x ∧ x ≤ 1099511627776) :
    Calls Try.prog 17 #[.slice A xs.length cap] w fun e w' => e = .returned (.int .i64 (delayI (numsX xs) xs.length)) ∧ Below w.heap.size w w' := by
  have hbd := delay_bd hnum (by omega)
  have HBD := Lib.hid hbd
  have HN := Lib.hid hnum
  have HROW := Lib.hid hrow
  have hset := set_made w
  have hB0 := (Below.refl w.heap.size w).alloc (Nat.le_refl _) (.map #[] 0)
  have HS := Lib.hid hset
  have HB0 := Lib.hid hB0
  have hmm := @run_makeMap Try.prog
  clear hbd hnum hrow hset hB0
  go_enter Try.func17, Try.ntmps17
  go_wp2_with fail
  go_loopw [4, 5, 11] (fun nx mo i wr => ∃ k j : Nat, k ≤ xs.length ∧ i = .int .i64 k ∧ nx = .int .i64 j ∧ mo = .int .i64 (delayI (numsX xs) k) ∧ j ≤ k ∧ Hid (IsMex ((numsX xs).take k) j) ∧ Hid (SetAt wr w.heap.size k (fun x => decide (x ∈ (numsX xs).take k))) ∧ Below w.heap.size w wr) (fun _ _ i _ => (xs.length - intOf i).toNat)
  case atStart => exact ⟨0, 0, by omega, rfl, rfl, rfl, by omega, Lib.hid ⟨fun j hj => by omega, by simp⟩, Lib.hid (by simpa using HS.out), HB0.out⟩
  case round =>
    obtain ⟨k, j, hk, rfl, rfl, rfl, hjk, hmex, hset, hB⟩ := hrel
    obtain ⟨wo, rfl⟩ : ∃ wo : World, wo = wr := ⟨_, rfl⟩
    obtain ⟨M, hM⟩ : ∃ M, M = delayI (numsX xs) k := ⟨_, rfl⟩
    have hMb := HBD.out k
    rw [← hM] at hMb ⊢
    obtain ⟨hM0, hM1⟩ := hMb
    have hsz := hB.size
    have hbl := hset.out.lt
    have HM := Lib.hid hM
    clear hM
    by_cases hlt : k < xs.length
    · obtain ⟨g, B, m, c, rfl, d0, d1, d2, d3, dv⟩ := ShRow.at HROW.out hlt
      have hg := block_lt_of_cell d0
      simp only at hg
      have y0 : ∀ o, (wo.alloc o).cell? ⟨g, k * 4, none⟩ = _ := fun o => keep_alloc ((hB.cell (block_lt_of_cell d0)).trans d0) o
      have e0 := (hB.cell (block_lt_of_cell d0)).trans d0
      have e1 := (hB.cell (block_lt_of_cell d1)).trans d1
      have e2 := (hB.cell (block_lt_of_cell d2)).trans d2
      have e3 := (hB.cell (block_lt_of_cell d3)).trans d3
      obtain ⟨X, hX⟩ : ∃ X, X = xs[k].1.num := ⟨_, rfl⟩
      have hXb := HN.out X (by rw [hX]; exact List.mem_map.2 ⟨_, List.getElem_mem hlt, rfl⟩)
      obtain ⟨hX0, hX1⟩ := hXb
      have hget : (numsX xs)[k]? = some X := by rw [hX]; exact numsX_get hlt
      have hnx : delayI (numsX xs) (k + 1) = max M (X - (j : Nat)) := by
        rw [delay_succ, hget, ← HM.out, mexN_eq hmex.out]; rfl
      have htk := take_snoc' hget
      rw [← hX] at e0
      have i1 : (0 : Int) ≤ (k : Int) := by omega
      have i2 : (k : Int) < (xs.length : Int) := by omega
      have HNX := Lib.hid hnx
      have HTK := Lib.hid htk
      obtain ⟨D, hown, hD⟩ := hset.out
      have HD := Lib.hid hD
      clear d0 d1 d2 d3 dv y0 hX hget hnx htk hD
      have hmax : ∀ Y : Int, (M < X - j ∧ Y = X - j ∨ ¬ M < X - j ∧ Y = M) → Y = delayI (numsX xs) (k + 1) := fun Y h => by rw [HNX.out]; omega
      have HMX := Lib.hid hmax
      clear hmax
      have hmi : ∀ i, i < j → ((i : Nat) : Int) ∈ (numsX xs).take (k + 1) := fun i hi => by rw [HTK.out]; exact List.mem_append_left _ (hmex.out.1 i hi)
      have HMI := Lib.hid hmi
      clear hmi
      by_cases c : M < X - j
      all_goals
        go_wp2_with (at_mapUpdate; refine wpList_mapUpdate_own _ rfl _ _ _ 41 rfl 3 4 (int_keyed Try.underlying3) Try.underlying41 elemB _ k D rfl (hown.alloc _) (by unfold maxLen; omega) _ _ (.int .i64 X) rfl rfl (keyI (wf_in (by omega) (by omega))) (.lit (.bool true)) [] (plainElem_bool Try.underlying4 true) ?_; intro w1 hown1 hgrow1)
        have hset1 : SetAt w1 w.heap.size (k + 1) (fun x => decide (x ∈ (numsX xs).take (k + 1))) := by
          have := set_put (wf_in (x := X) (by omega) (by omega)) HD.out hown.isMap hown1
          have e : (fun y => y == X || decide (y ∈ (numsX xs).take k)) = (fun x => decide (x ∈ (numsX xs).take (k + 1))) := by
            funext y
            rw [HTK.out, Bool.eq_iff_iff]
            simp only [Bool.or_eq_true, beq_iff_eq, decide_eq_true_eq, List.mem_append, List.mem_singleton]
            exact ⟨fun h => h.symm, fun h => h.symm⟩
          rw [← e]; exact this
        have hB1 : Below w.heap.size w w1 := (hB.alloc hsz _).grown hgrow1 (by simp; omega) (fun r e => by cases e; exact Nat.le_refl _)
        have HS1 := Lib.hid hset1
        have HB1 := Lib.hid hB1
        clear hset1 hB1 hown1 hgrow1 hown hset hmex HD e0 e1 e2 e3 hB
        go_loop [4] (fun nx => ∃ j' : Nat, j ≤ j' ∧ j' ≤ k + 1 ∧ nx = .int .i64 j' ∧ Hid (∀ i, i < j' → ((i : Nat) : Int) ∈ (numsX xs).take (k + 1))) (fun nx => (k + 2 - intOf nx).toNat)
        case atStart => exact ⟨j, by omega, by omega, rfl, HMI⟩
        case round =>
          obtain ⟨j', hj1, hj2, rfl, hI⟩ := hrel
          have hlk := HS1.out.look (x := (j' : Int)) (wf_in (by omega) (by omega))
          by_cases hin : ((j' : Nat) : Int) ∈ (numsX xs).take (k + 1)
          · have h1 : ∀ i, i < j' + 1 → ((i : Nat) : Int) ∈ (numsX xs).take (k + 1) := fun i hi => by
              by_cases e : i = j'
              · rw [e]; exact hin
              · exact hI.out i (by omega)
            have h2 := mex_le _ _ h1
            have h3 := List.length_take_le (k + 1) (numsX xs)
            have H1 := Lib.hid h1
            rw [decide_eq_true hin] at hlk
            clear h1 hin
            go_wp2
            go_round
            case rel => exact ⟨j' + 1, by omega, by omega, by go_num, H1⟩
            case measure => simp [intOf]; omega
          · rw [decide_eq_false hin] at hlk
            have H1 := Lib.hid (show IsMex ((numsX xs).take (k + 1)) j' from ⟨hI.out, hin⟩)
            clear hin
            go_wp2
            refine ⟨⟨k + 1, j', by omega, by go_num, rfl, ?_, by omega, H1, HS1, HB1.out⟩, by simp [intOf]; omega⟩
            congr 1
            apply HMX.out
            first
              | exact .inl ⟨c, rfl⟩
              | exact .inr ⟨c, rfl⟩
    · obtain rfl : k = xs.length := by omega
      go_wp2
      go_ret
      exact ⟨ret_eq HM.out, hB⟩
end Go.Proofs.Ytmnkbcigjbiniaa
