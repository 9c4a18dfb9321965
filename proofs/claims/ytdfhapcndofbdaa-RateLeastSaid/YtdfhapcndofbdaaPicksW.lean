/- The law RatePicks: its walk. -/
import Derived.Test.YtdfhapcndofbdaaSiz
namespace Go.Proofs.Ytdfhapcndofbdaa
open Go.RowKit
theorem IsRow.below {k : IntKind} {w w' : World} {a : Option Addr} {len cap : Nat} {zs : List Int} (h : IsRow k w a len cap zs) (hb : Below w.heap.size w w') : IsRow k w' a len cap zs := by
  rcases h with h | ⟨x, h1, h2, h3, h4, h5, h6⟩
  · exact .inl h
  · exact .inr ⟨x, h1, h2, h3, h4, fun i hi => (hb.cell (block_lt_of_cell (h5 i hi))).trans (h5 i hi), h6⟩
end Go.Proofs.Ytdfhapcndofbdaa
namespace Go.Proofs.Ytdfhapcndofbdaa.ratePicks
open Go.RowKit

/-- The memory that the law's closure works on: the variables asked and s, their rows. -/
structure Mem (w : World) (s : Int → Int) (gs ps ga pa : Nat) (W : World) : Prop where
  va : W.cell? ⟨pa, 0, none⟩ = some (.slice (some ⟨ga, 0, none⟩) 61 61)
  vs : W.cell? ⟨ps, 0, none⟩ = some (.slice (some ⟨gs, 0, none⟩) 61 61)
  row : ∀ j : Nat, j < 61 → W.cell? ⟨gs, j, none⟩ = some (.int .i64 (s j))
  ask : ∃ B, W.heap[ga]? = some (.cells B 4 (0, 0)) ∧ ∀ j, j < 61 → ∃ x, B[j]? = some (.bool x)
  bel : Below w.heap.size w W
def Ask (ga : Nat) (q : Int) (W : World) : Prop := ∃ B, W.heap[ga]? = some (.cells B 4 (0, 0)) ∧ B[q.toNat]? = some (.bool true)
theorem cell_other {w : World} {b b' o o' : Nat} {u v : Value} (h : w.cell? ⟨b, o, none⟩ = some u) (hb : b ≠ b') : (w.setCell ⟨b', o', none⟩ v).cell? ⟨b, o, none⟩ = some u :=
  (World.cell?_of_block (w := w) (Below.heap_setCell w ⟨b', o', none⟩ v b hb)).trans h
theorem cell_of_B {W : World} {ga : Nat} {B : Array Value} {j : Nat} {v : Value} (h : W.heap[ga]? = some (.cells B 4 (0, 0))) (hj : B[j]? = some v) : W.cell? ⟨ga, j, none⟩ = some v := (cell_of_row W ga j _ _ _ h).trans hj

theorem call_any {w : World} {s : Int → Int} {gs ps ga pa : Nat} (hga : w.heap.size ≤ ga) (n1 : ps ≠ ga) (n2 : gs ≠ ga) (n3 : pa ≠ ga) (q : Int) (W : World) (h0 : 0 ≤ q) (h1 : q < 60) (hM : Mem w s gs ps ga pa W) :
    Calls Try.prog 16 #[.int .i64 q, .pointer (some ⟨pa, 0, none⟩), .pointer (some ⟨ps, 0, none⟩)] W fun e w2 => e = .returned (.int .i64 (s q)) ∧ Mem w s gs ps ga pa w2 ∧ Ask ga q w2 ∧ ∀ p, Ask ga p W → Ask ga p w2 := by
  obtain ⟨B, hB, hx⟩ := hM.ask
  obtain ⟨x, hx1⟩ := hx q.toNat (by omega)
  have hq : ((q.toNat : Nat) : Int) = q := by omega
  have hrow := hM.row q.toNat (by omega)
  rw [hq] at hrow
  refine (picks1_any s pa ga ps gs q W hM.va hM.vs h0 h1 ⟨x, cell_of_B hB hx1⟩ (frozen_of_row W ga q.toNat _ _ hB) ⟨n1, n2, n3⟩ hrow).mono ?_
  rintro e w2 ⟨rfl, rfl⟩
  have hB2 : (W.setCell ⟨ga, q.toNat, none⟩ (.bool true)).heap[ga]? = _ := heap_setCell_same W ga q.toNat _ _ _ hB
  have hlt : q.toNat < B.size := (Array.getElem?_eq_some_iff.1 hx1).1
  refine ⟨rfl, ⟨cell_other hM.va n3, cell_other hM.vs n1, fun j hj => cell_other (hM.row j hj) n2, ⟨_, hB2, fun j hj => ?_⟩, hM.bel.setCell (p := ⟨ga, q.toNat, none⟩) hga _⟩, ⟨_, hB2, ?_⟩, fun p hp => ?_⟩
  · by_cases h : q.toNat = j
    · subst h; exact ⟨true, by rw [Array.getElem?_setIfInBounds_self, if_pos hlt]⟩
    · rw [Array.getElem?_setIfInBounds_ne h]; exact hx j hj
  · rw [Array.getElem?_setIfInBounds_self, if_pos hlt]
  · obtain ⟨B', hB', hp'⟩ := hp
    rw [hB] at hB'
    cases hB'
    refine ⟨_, hB2, ?_⟩
    by_cases h : q.toNat = p.toNat
    · rw [← h, Array.getElem?_setIfInBounds_self, if_pos hlt]
    · rw [Array.getElem?_setIfInBounds_ne h]; exact hp'

set_option maxHeartbeats 2000000 in
theorem walk (w : World) (room : Int) (_w0 : (Lit.int .i64 room).wf = true) (a0 : Option Addr) (len0 cap0 : Nat) (z0 : List Int) (w0 : IsRow .i64 w a0 len0 cap0 z0) :
    Calls Try.prog 4 #[.int .i64 room, .slice a0 len0 cap0] w fun e w' => e = .returned (.bool true) ∧ Below w.heap.size w w' := by
  clear _w0
  have hB := Below.refl w.heap.size w
  have W0 := Lib.hid w0
  clear w0
  go_enter Try.func4, Try.ntmps4
  go_wp2_with (first
    | (go_at_call 7; refine (first_any _).mono ?_; rintro e w2 ⟨rfl, hb2⟩; have hB := below2 hB hb2; clear hb2)
    | (go_at_call 14; refine (sizes_any w2 a0 len0 cap0 z0 (IsRow.below W0.out hB)).mono ?_; rintro e w3 ⟨rfl, hrow, hb3⟩)
    | rw [make_bools])
  have hs2 := hb3.size
  have hlt2 : w2.heap.size < w3.heap.size := (Array.getElem?_eq_some_iff.1 hrow).1
  have hb := hB.size
  have hBB : Below w.heap.size w w3 := below2 hB hb3
  have hM : Mem w (fun q => sizF z0 len0 q.toNat) w2.heap.size w3.heap.size (w3.heap.size + 1) (w3.heap.size + 1 + 1) (((w3.alloc (.cells #[.slice (some ⟨w2.heap.size, 0, none⟩) 61 61] 22)).alloc (.cells (Array.replicate 61 (.bool false)) 4)).alloc (.cells #[.slice (some ⟨w3.heap.size + 1, 0, none⟩) 61 61] 33)) := by
    have e1 : (w3.alloc (.cells #[.slice (some ⟨w2.heap.size, 0, none⟩) 61 61] 22)).heap.size = w3.heap.size + 1 := by simp
    have e2 : ((w3.alloc (.cells #[.slice (some ⟨w2.heap.size, 0, none⟩) 61 61] 22)).alloc (.cells (Array.replicate 61 (.bool false)) 4)).heap.size = w3.heap.size + 1 + 1 := by simp
    have a1 := heap_alloc_new w3 (.cells #[.slice (some ⟨w2.heap.size, 0, none⟩) 61 61] 22)
    have a2 := heap_alloc_new (w3.alloc (.cells #[.slice (some ⟨w2.heap.size, 0, none⟩) 61 61] 22)) (.cells (Array.replicate 61 (.bool false)) 4)
    have a3 := heap_alloc_new ((w3.alloc (.cells #[.slice (some ⟨w2.heap.size, 0, none⟩) 61 61] 22)).alloc (.cells (Array.replicate 61 (.bool false)) 4)) (.cells #[.slice (some ⟨w3.heap.size + 1, 0, none⟩) 61 61] 33)
    rw [e1] at a2
    rw [e2] at a3
    refine ⟨cell_of_row _ _ 0 _ _ _ a3, ?_, ?_, ⟨_, (Below.heap_alloc _ _ _ (by omega)).trans a2, ?_⟩, ?_⟩
    · exact cell_of_row _ _ 0 _ _ _ ((Below.heap_alloc _ _ _ (by omega)).trans ((Below.heap_alloc _ _ _ (by omega)).trans a1))
    · intro j hj
      have hr : (((w3.alloc (.cells #[.slice (some ⟨w2.heap.size, 0, none⟩) 61 61] 22)).alloc (.cells (Array.replicate 61 (.bool false)) 4)).alloc (.cells #[.slice (some ⟨w3.heap.size + 1, 0, none⟩) 61 61] 33)).heap[w2.heap.size]? = _ :=
        (Below.heap_alloc _ _ _ (by omega)).trans ((Below.heap_alloc _ _ _ (by omega)).trans ((Below.heap_alloc _ _ _ hlt2).trans hrow))
      have := cell_of_row _ _ j _ _ _ hr
      rw [sizArr_get _ _ _ _ hj, if_pos hj] at this
      simpa using this
    · intro j hj
      exact ⟨false, by simp [hj]⟩
    · exact ((hBB.alloc (by omega) _).alloc (by omega) _).alloc (by omega) _
  generalize ((w3.alloc (.cells #[.slice (some ⟨w2.heap.size, 0, none⟩) 61 61] 22)).alloc (.cells (Array.replicate 61 (.bool false)) 4)).alloc (.cells #[.slice (some ⟨w3.heap.size + 1, 0, none⟩) 61 61] 33) = W4 at hM ⊢
  refine (pick_any room (fun q => sizF z0 len0 q.toNat) 16 _ W4 (Mem w (fun q => sizF z0 len0 q.toNat) w2.heap.size w3.heap.size (w3.heap.size + 1) (w3.heap.size + 1 + 1)) (Ask (w3.heap.size + 1)) ?_ (fun _ _ => by kernel_rfl) hM).mono ?_
  · intro q w1 h0 h1 hI
    exact call_any (by omega) (by omega) (by omega) (by omega) q w1 h0 h1 hI
  rintro e w5 ⟨r, rfl, hr, hr0, hr1, hI, hlo, hhi⟩
  clear hM hBB hrow hb3 hB
  have HRP := Lib.hid (refPick_any (fun q => sizF z0 len0 q.toNat) room w2.heap.size w5 hI.row)
  rw [← hr] at HRP
  have kv := hI.va
  have ks := hI.vs
  have HB5 := Lib.hid hI.bel
  have hlow : r < 60 → ∃ S, w5.cell? ⟨w3.heap.size + 1, r.toNat, none⟩ = some (.bool true) ∧ w5.cell? ⟨w2.heap.size, r.toNat, none⟩ = some (.int .i64 S) ∧ S ≤ room := fun h => by
    obtain ⟨⟨B, hB, hq⟩, hle⟩ := hlo h
    exact ⟨sizF z0 len0 r.toNat, cell_of_B hB hq, by have := hI.row r.toNat (by omega); rwa [show ((r.toNat : Nat) : Int) = r by omega] at this, hle⟩
  have hhigh : 0 < r → ∃ S, w5.cell? ⟨w3.heap.size + 1, r.toNat - 1, none⟩ = some (.bool true) ∧ w5.cell? ⟨w2.heap.size, r.toNat - 1, none⟩ = some (.int .i64 S) ∧ room < S := fun h => by
    obtain ⟨⟨B, hB, hq⟩, hle⟩ := hhi h
    rw [show r.toNat - 1 = (r - 1).toNat by omega]
    exact ⟨sizF z0 len0 (r - 1).toNat, cell_of_B hB hq, by have := hI.row (r - 1).toNat (by omega); rwa [show (((r - 1).toNat : Nat) : Int) = r - 1 by omega] at this, hle⟩
  clear hlo hhi hI hr
  generalize w3.heap.size + 1 + 1 = pa at *
  generalize w3.heap.size + 1 = ga at *
  generalize w3.heap.size = ps at *
  generalize w2.heap.size = gs at *
  by_cases h60 : r < 60
  · obtain ⟨S1, kb1, ki1, hS1⟩ := hlow h60
    by_cases hp : 0 < r
    · obtain ⟨S2, kb2, ki2, hS2⟩ := hhigh hp
      clear hlow hhigh
      have hz : (r == 0) = false := by simpa using (by omega : r ≠ 0)
      go_wp2_with (go_at_call 17; refine HRP.out.mono ?_; rintro e w6 ⟨rfl, rfl⟩)
      go_ret
      exact ⟨retb_eq (by simp), HB5.out⟩
    · have hz : (r == 0) = true := by simpa using (by omega : r = 0)
      clear hlow hhigh
      go_wp2_with (go_at_call 17; refine HRP.out.mono ?_; rintro e w6 ⟨rfl, rfl⟩)
      go_ret
      exact ⟨retb_eq (by simp), HB5.out⟩
  · have hz : (r == 0) = false := by simpa using (by omega : r ≠ 0)
    obtain ⟨S2, kb2, ki2, hS2⟩ := hhigh (by omega)
    clear hlow hhigh
    go_wp2_with (go_at_call 17; refine HRP.out.mono ?_; rintro e w6 ⟨rfl, rfl⟩)
    go_ret
    exact ⟨retb_eq (by simp), HB5.out⟩
end Go.Proofs.Ytdfhapcndofbdaa.ratePicks
