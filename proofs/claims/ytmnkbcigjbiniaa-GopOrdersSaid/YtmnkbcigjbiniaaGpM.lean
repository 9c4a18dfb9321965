/- gop.All's iterator, ranged over. -/
import Derived.Test.YtmnkbcigjbiniaaGpL
import Derived.Shelf.Abstract
namespace Go.Proofs.Ytmnkbcigjbiniaa
open Go.RowKit Go.Shelf
attribute [local go_sem] Oper.semAt_some

/-- What a round keeps: the two boxes, and each block of whole numbers from B + 2 on. -/
def KP (B : Nat) (W W' : World) : Prop := W.heap.size ≤ W'.heap.size ∧ (∀ k, B ≤ k → k < B + 2 → W'.heap[k]? = W.heap[k]?) ∧ ∀ k cs fr, B + 2 ≤ k → W.heap[k]? = some (.cells cs 3 fr) → W'.heap[k]? = some (.cells cs 3 fr)
theorem KP.trans {B : Nat} {a b c : World} (h : KP B a b) (k : KP B b c) : KP B a c :=
  ⟨Nat.le_trans h.1 k.1, fun j h1 h2 => (k.2.1 j h1 h2).trans (h.2.1 j h1 h2), fun j cs fr h1 h2 => k.2.2 j cs fr h1 (h.2.2 j cs fr h1 h2)⟩
theorem KP.of {B : Nat} {a b : World} (h : Below a.heap.size a b) (hn : B + 2 ≤ a.heap.size) : KP B a b :=
  ⟨h.size, fun k _ h2 => h.block k (by omega), fun _ _ _ _ h2 => block_later h2 h⟩
theorem KP.refl (B : Nat) (a : World) : KP B a a := ⟨Nat.le_refl _, fun _ _ _ => rfl, fun _ _ _ _ h => h⟩
theorem KP.keep {B j : Nat} {a b : World} {o : Obj} (h : KP B a b) (hb : a.heap[B + j]? = some o) (hj : j < 2) : b.heap[B + j]? = some o := (h.2.1 (B + j) (by omega) (by omega)).trans hb
theorem below_grown {a b : World} (h : Below a.heap.size a b) : a.grownBy b none := ⟨h.os, h.tape, h.output, h.size, fun k hk _ => h.block k hk⟩

/-- the shots ahead of anchor k's -/
def ahead (n p b : Int) (k : Nat) : List Sh := (List.range k).flatMap (groupG n p b)
theorem ahead_succ (n p b : Int) (k : Nat) : ahead n p b (k + 1) = ahead n p b k ++ groupG n p b k := by unfold ahead; rw [List.range_succ]; simp
theorem ahead_all (n p b : Int) : ahead n p b (cntA n p b) = shots n p b := rfl
theorem ahead_len {n p b : Int} {k j : Nat} (h : k ≤ j) : (ahead n p b k).length ≤ (ahead n p b j).length := by
  induction j with
  | zero => obtain rfl : k = 0 := by omega
            exact Nat.le_refl _
  | succ j ih =>
    by_cases c : k = j + 1
    · rw [c]; exact Nat.le_refl _
    · rw [ahead_succ, List.length_append]; have := ih (by omega); omega
theorem ahead_lt {n p b : Int} {k j : Nat} (h : k < cntA n p b) (hj : j < (groupG n p b k).length) : (ahead n p b k).length + j < (shots n p b).length := by
  have := ahead_len (n := n) (p := p) (b := b) (show k + 1 ≤ cntA n p b by omega)
  rw [ahead_all, ahead_succ, List.length_append] at this
  omega
theorem group_len (n p b : Int) (k : Nat) : (groupG n p b k).length = gapN n b k + 1 := by simp [groupG]
/-- a group, j of its shots between having come -/
def partG (n p b : Int) (k j : Nat) : List Sh := ahead n p b k ++ anchorSh n p b k :: (List.range j).map (btwSh n b k)
theorem part_zero (n p b : Int) (k : Nat) : partG n p b k 0 = ahead n p b k ++ [anchorSh n p b k] := rfl
theorem part_succ (n p b : Int) (k j : Nat) : partG n p b k (j + 1) = partG n p b k j ++ [btwSh n b k j] := by unfold partG; rw [List.range_succ]; simp
theorem part_full (n p b : Int) (k : Nat) : partG n p b k (gapN n b k) = ahead n p b (k + 1) := by rw [ahead_succ]; rfl
theorem part_len (n p b : Int) (k j : Nat) : (partG n p b k j).length = (ahead n p b k).length + 1 + j := by simp [partG]; omega

abbrev ShX := Sh × Value
def ShG (x : ShX) (w : World) : Prop := RefsAt w x.2 x.1.refs
def encX (x : ShX) : Array Value := #[shV x.1 x.2]
theorem ancA_bd {n p b : Int} (h : okA n p b = true) {k : Nat} (hk : k < cntA n p b) : ancA n b k < n.toNat ∧ n.toNat ≤ 1000 := by
  obtain ⟨_, h1, h2⟩ := okA_yes h
  unfold cntA at hk
  rw [if_pos h] at hk
  exact ⟨anc_lt (by omega) (by unfold stepA; omega) hk, by omega⟩
theorem ancA_succ (n b : Int) (k : Nat) : ancA n b k < ancA n b (k + 1) ∧ ancA n b (k + 1) ≤ ancA n b k + stepA b := anc_succ (by unfold stepA; omega)
/-- anchor's contract, over the list of anchors -/
theorem anchor_any {n p b : Int} (hok : okA n p b = true) {k : Nat} (hk : k < cntA n p b) (g cap : Nat) (w : World) (hcell : ∀ j, j < cntA n p b → w.cell? ⟨g, j, none⟩ = some (ancV n b j)) :
    Calls Try.prog 20 #[.slice (some ⟨g, 0, none⟩) (cntA n p b) cap, .int .i64 (k : Nat), .agg #[.int .i64 p, .int .i64 b]] w (ShPost (anchorSh n p b k) w) := by
  have hb1 := ancA_bd hok hk
  have hz : 0 ≤ (if 2 ≤ k then ((ancA n b (k - 2) : Nat) : Int) else 0) ∧ (if 2 ≤ k then ((ancA n b (k - 2) : Nat) : Int) else 0) ≤ 10000000 := by
    split
    · have := ancA_bd hok (show k - 2 < cntA n p b by omega); omega
    · omega
  have := anchor_walk p b (ancA n b k : Nat) (ancA n b (k - 1) : Nat) (if 2 ≤ k then ((ancA n b (k - 2) : Nat) : Int) else 0) (ownB p k) g (cntA n p b) cap k w (okA_yes hok).1.1 hk (cntA_le n p b) (hcell k hk) (fun h => hcell (k - 1) (by omega)) (fun h => by rw [if_pos h]; exact hcell (k - 2) (by omega)) (by omega) hz rfl
  unfold anchorSh
  by_cases c : 2 ≤ k
  · simp only [if_pos c] at this ⊢
    exact this
  · simp only [if_neg c] at this ⊢
    exact this
end Go.Proofs.Ytmnkbcigjbiniaa
