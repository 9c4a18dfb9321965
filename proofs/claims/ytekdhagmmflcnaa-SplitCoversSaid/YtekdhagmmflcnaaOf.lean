/- Contracts of split.has, split.Of and the document's Of. -/
import Derived.Test.YtekdhagmmflcnaaRList
namespace Go.Proofs.Ytekdhagmmflcnaa
open Go.RowKit Go.Shelf
attribute [local go_sem] Oper.semAt_some

/-- is a place in a part? -/
def inI (X Y Wd H x y : Int) : Bool := decide (X ≤ x) && decide (x < X + Wd) && decide (Y ≤ y) && decide (y < Y + H)

set_option maxHeartbeats 800000 in
theorem has_any (X Y Wd H x y : Int) (w : World) (h0 : 0 ≤ X + Wd) (h1 : X + Wd ≤ 200000) (h2 : 0 ≤ Y + H) (h3 : Y + H ≤ 200000) :
    Calls Try.prog 20 #[.agg #[.int .i64 X, .int .i64 Y, .int .i64 Wd, .int .i64 H], .int .i64 x, .int .i64 y] w fun e w' => e = .returned (.bool (inI X Y Wd H x y)) ∧ Below w.heap.size w w' := by
  have hf : ∀ b, b = inI X Y Wd H x y → Ending.returned (.bool b) = .returned (.bool (inI X Y Wd H x y)) := fun b h => by rw [h]
  have HF := Lib.hid hf
  clear hf
  by_cases c1 : X ≤ x
  · by_cases c2 : x < X + Wd
    · by_cases c3 : Y ≤ y
      · go_enter Try.func20, Try.ntmps20
        go_wp2
        go_ret
        exact ⟨HF.out _ (by simp [inI, c1, c2, c3]), (Below.refl _ _).alloc (Nat.le_refl _) _⟩
      · go_enter Try.func20, Try.ntmps20
        go_wp2
        go_ret
        exact ⟨HF.out _ (by simp [inI]; omega), (Below.refl _ _).alloc (Nat.le_refl _) _⟩
    · go_enter Try.func20, Try.ntmps20
      go_wp2
      go_ret
      exact ⟨HF.out _ (by simp [inI]; omega), (Below.refl _ _).alloc (Nat.le_refl _) _⟩
  · go_enter Try.func20, Try.ntmps20
    go_wp2
    go_ret
    exact ⟨HF.out _ (by simp [inI]; omega), (Below.refl _ _).alloc (Nat.le_refl _) _⟩

/-- is a place in the k-th part? -/
def inAt (w h m n x y : Int) (k : Nat) : Bool := inI (fromI w m (colI m k)) (fromI h n (rowI m n k)) (fromI w m (colI m k + 1) - fromI w m (colI m k)) (fromI h n (rowI m n k + 1) - fromI h n (rowI m n k)) x y
/-- the part of a place -/
def ofI (w h m n x y : Int) : Int := (((List.range (cntI w h m n)).find? (inAt w h m n x y)).map fun k : Nat => (k : Int)).getD (-1)
theorem col_bd {m : Int} (h0 : 1 ≤ m) (h1 : m ≤ 64) (k : Nat) : 0 ≤ colI m k ∧ colI m k ≤ 63 := by
  unfold colI
  have := Nat.mod_lt k (by omega : 0 < m.toNat)
  omega
theorem row_bd {m n : Int} (h0 : 1 ≤ n) (h1 : n ≤ 64) (k : Nat) : 0 ≤ rowI m n k ∧ rowI m n k ≤ 63 := by
  unfold rowI
  have := Nat.mod_lt (k / m.toNat) (by omega : 0 < n.toNat)
  omega
theorem rect_bd {w h m n : Int} (hr : rightI w h m n = true) (k : Nat) :
    (0 ≤ fromI w m (colI m k) + (fromI w m (colI m k + 1) - fromI w m (colI m k)) ∧ fromI w m (colI m k) + (fromI w m (colI m k + 1) - fromI w m (colI m k)) ≤ 200000) ∧
    (0 ≤ fromI h n (rowI m n k) + (fromI h n (rowI m n k + 1) - fromI h n (rowI m n k)) ∧ fromI h n (rowI m n k) + (fromI h n (rowI m n k + 1) - fromI h n (rowI m n k)) ≤ 200000) := by
  obtain ⟨w0, w1, hh0, hh1, m0, m1, nn0, nn1⟩ := rightI_yes hr
  have c := col_bd m0 m1 k
  have r := row_bd (m := m) nn0 nn1 k
  have f0 := from_bd (s := w) (p := m) (by omega) w1 m0 (by omega : 0 ≤ colI m k + 1) (by omega)
  have f1 := from_bd (s := h) (p := n) (by omega) hh1 nn0 (by omega : 0 ≤ rowI m n k + 1) (by omega)
  omega
theorem cnt_right {w h m n : Int} {k : Nat} (hk : k < cntI w h m n) : rightI w h m n = true := by
  unfold cntI at hk
  split at hk
  · assumption
  · omega
theorem of_none {w h m n x y : Int} (h0 : ∀ k ∈ List.range (cntI w h m n), inAt w h m n x y k = false) : ofI w h m n x y = -1 := by
  unfold ofI
  rw [List.find?_eq_none.2 (fun k hk => by simp [h0 k hk])]
  rfl
theorem of_some {w h m n x y : Int} {k : Nat} (hk : k < cntI w h m n) (h0 : ∀ j ∈ List.range k, inAt w h m n x y j = false) (h1 : inAt w h m n x y k = true) : ofI w h m n x y = k := by
  unfold ofI
  have e : (List.range (cntI w h m n)).find? (inAt w h m n x y) = some k := by
    rw [List.find?_range_eq_some]
    exact ⟨h1, by simpa using hk, fun j hj => by simp [h0 j (List.mem_range.2 hj)]⟩
  rw [e]
  rfl
end Go.Proofs.Ytekdhagmmflcnaa
