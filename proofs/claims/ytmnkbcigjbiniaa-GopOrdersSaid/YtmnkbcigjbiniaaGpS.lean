/- Shots; the contract of gop.anchor. -/
import Derived.Test.YtmnkbcigjbiniaaGpB
import Derived.StillTailTactics
import Derived.BigRegion
namespace Go.Proofs.Ytmnkbcigjbiniaa
open Go.RowKit

structure Sh where
  num : Int
  refs : List Int
  kept : Bool
  ret : Int
/-- by itself? -/
def ownB (p : Int) (k : Nat) : Bool := k == 0 || (decide (0 < p) && (k : Int) % p == 0)
def anchorSh (n p b : Int) (k : Nat) : Sh := ⟨(ancA n b k : Nat), if ownB p k = true then [] else [((ancA n b (k - 1) : Nat) : Int)], true, if 2 ≤ k then ((ancA n b k : Nat) : Int) - (ancA n b (k - 2) : Nat) else 0⟩
def btwSh (n b : Int) (k j : Nat) : Sh := ⟨((ancA n b (k - 1) + 1 + j : Nat) : Int), [((ancA n b (k - 1) : Nat) : Int), ((ancA n b k : Nat) : Int)], false, 0⟩
/-- how many stand between -/
def gapN (n b : Int) (k : Nat) : Nat := if k = 0 then 0 else ancA n b k - ancA n b (k - 1) - 1
def groupG (n p b : Int) (k : Nat) : List Sh := anchorSh n p b k :: (List.range (gapN n b k)).map (btwSh n b k)
def shots (n p b : Int) : List Sh := (List.range (cntA n p b)).flatMap (groupG n p b)

/-- A slice that reads as these numbers, in a block of its own. -/
def RefsAt (w : World) (v : Value) (l : List Int) : Prop := (l = [] ∧ v = .slice none 0 0) ∨ (l ≠ [] ∧ ∃ g, v = .slice (some ⟨g, 0, none⟩) l.length l.length ∧ w.heap[g]? = some (.cells (l.map (Value.int .i64)).toArray 3 (0, 0)))
theorem RefsAt.below {w w' : World} {v : Value} {l : List Int} (h : RefsAt w v l) (hb : Below w.heap.size w w') : RefsAt w' v l := by
  rcases h with h | ⟨h, g, hv, hg⟩
  · exact .inl h
  · exact .inr ⟨h, g, hv, block_later hg hb⟩
theorem RefsAt.grown {w w' : World} {v : Value} {l : List Int} {row : Option Nat} (h : RefsAt w v l) (hb : w.grownBy w' row) (hr : ∀ r, row = some r → ∃ cs t fr, w.heap[r]? = some (.cells cs t fr) ∧ t ≠ 3) : RefsAt w' v l := by
  rcases h with h | ⟨h, g, hv, hg⟩
  · exact .inl h
  · refine .inr ⟨h, g, hv, (hb.block g (block_lt hg) (fun e => ?_)).trans hg⟩
    obtain ⟨cs, t, fr, h1, h2⟩ := hr g e.symm
    rw [hg] at h1
    cases h1
    exact h2 rfl
theorem refs_nil (w : World) : RefsAt w (.slice none 0 0) [] := .inl ⟨rfl, rfl⟩
/-- a shot as a value -/
def shV (s : Sh) (v : Value) : Value := .agg #[.int .i64 s.num, v, .bool s.kept, .int .i64 s.ret]
def ShPost (s : Sh) (w : World) (e : Ending) (w' : World) : Prop := ∃ v, e = .returned (shV s v) ∧ RefsAt w' v s.refs ∧ Below w.heap.size w w'

section
variable {w : World} {A B C D : Obj}
theorem bel3 : Below w.heap.size w (((w.alloc A).alloc B).alloc C) := (((Below.refl _ w).alloc (Nat.le_refl _) A).alloc (by simp) B).alloc (by simp; omega) C
theorem bel4 : Below w.heap.size w ((((w.alloc A).alloc B).alloc C).alloc D) := bel3.alloc (by simp; omega) D
theorem refs_new4 {Y : Int} : RefsAt ((((w.alloc A).alloc B).alloc C).alloc (.cells #[.int .i64 Y] 3)) (.slice (some ⟨w.heap.size + 1 + 1 + 1, 0, none⟩) 1 1) [Y] := by
  refine .inr ⟨by simp, w.heap.size + 1 + 1 + 1, rfl, ?_⟩
  have := heap_alloc_new (((w.alloc A).alloc B).alloc C) (.cells #[.int .i64 Y] 3)
  simp only [World.size_alloc] at this
  exact this
end

set_option maxRecDepth 20000 in
set_option maxHeartbeats 2000000 in
theorem anchor_walk (p b X Y Z : Int) (own : Bool) (g c cap k : Nat) (w : World) (hp0 : 0 ≤ p) (hk : k < c) (hc : c ≤ 1000)
    (x0 : w.cell? ⟨g, k, none⟩ = some (.int .i64 X)) (y0 : 1 ≤ k → w.cell? ⟨g, k - 1, none⟩ = some (.int .i64 Y)) (z0 : 2 ≤ k → w.cell? ⟨g, k - 2, none⟩ = some (.int .i64 Z))
    (hX : 0 ≤ X ∧ X ≤ 10000000) (hZ : 0 ≤ Z ∧ Z ≤ 10000000) (hown : ownB p k = own) :
    Calls Try.prog 20 #[.slice (some ⟨g, 0, none⟩) c cap, .int .i64 (k : Nat), .agg #[.int .i64 p, .int .i64 b]] w
      (ShPost ⟨X, if own = true then [] else [Y], true, if 2 ≤ k then X - Z else 0⟩ w) := by
  obtain ⟨hX0, hX1⟩ := hX
  obtain ⟨hZ0, hZ1⟩ := hZ
  have x2 : ∀ o o2, ((w.alloc o).alloc o2).cell? ⟨g, k, none⟩ = some (.int .i64 X) := fun o o2 => keep_alloc (keep_alloc x0 o) o2
  have x3 : ∀ o o2 o3, (((w.alloc o).alloc o2).alloc o3).cell? ⟨g, k, none⟩ = some (.int .i64 X) := fun o o2 o3 => keep_alloc (x2 o o2) o3
  have x4 : ∀ o o2 o3 o4, ((((w.alloc o).alloc o2).alloc o3).alloc o4).cell? ⟨g, k, none⟩ = some (.int .i64 X) := fun o o2 o3 o4 => keep_alloc (x3 o o2 o3) o4
  have hk1 : (k : Int) < c := by omega
  have hk2 : (0 : Int) ≤ k := by omega
  by_cases h1 : k = 0
  · subst h1
    obtain rfl : own = true := by rw [← hown]; rfl
    clear y0 z0 x3 x4 hown
    go_enter Try.func20, Try.ntmps20
    go_wp2_with fail
    exact bodyPost_ret (v := .agg #[.int .i64 X, .slice none 0 0, .bool true, .int .i64 0]) (by simp [results, Try.results20, go_sem]) rfl ⟨_, rfl, refs_nil _, bel3⟩
  have hk3 : (1 : Int) ≤ k := by omega
  have y3 : ∀ o o2 o3, (((w.alloc o).alloc o2).alloc o3).cell? ⟨g, k - 1, none⟩ = some (.int .i64 Y) := fun o o2 o3 => keep_alloc (keep_alloc (keep_alloc (y0 (by omega)) o) o2) o3
  clear y0
  have hk0 : (k == 0) = false := by simp [h1]
  by_cases h2 : k = 1
  · have hk4 : ¬ (2 : Int) ≤ k := by omega
    have hk5 : ¬ 2 ≤ k := by omega
    clear z0 h2
    simp only [hk5, if_false]
    by_cases hp : p = 0
    · subst hp
      obtain rfl : own = false := by rw [← hown]; unfold ownB; rw [hk0]; rfl
      simp only [Bool.false_eq_true, if_false]
      clear hown hk0 hk5
      go_enter Try.func20, Try.ntmps20
      go_wp2_with fail
      exact bodyPost_ret (v := .agg #[.int .i64 X, .slice (some ⟨w.heap.size + 1 + 1 + 1, 0, none⟩) 1 1, .bool true, .int .i64 (0)]) (by simp [results, Try.results20, go_sem]) rfl ⟨_, rfl, refs_new4, bel4⟩
    · have hp1 : 0 < p := by omega
      cases hown' : own with
      | true =>
        have hm : (k : Int) % p = 0 := by
          rw [hown'] at hown
          unfold ownB at hown
          rw [hk0] at hown
          simpa [hp1] using hown
        simp only [if_true]
        clear hown hk0 hk5 hown'
        go_enter Try.func20, Try.ntmps20
        go_wp2_with fail
        exact bodyPost_ret (v := .agg #[.int .i64 X, .slice none 0 0, .bool true, .int .i64 (0)]) (by simp [results, Try.results20, go_sem]) rfl ⟨_, rfl, refs_nil _, bel3⟩
      | false =>
        have hm : ¬ (k : Int) % p = 0 := by
          rw [hown'] at hown
          unfold ownB at hown
          rw [hk0] at hown
          simpa [hp1] using hown
        have hm1 : ((k : Int) % p != 0) = true := by simp [hm]
        simp only [Bool.false_eq_true, if_false]
        clear hown hk0 hk5 hown'
        go_enter Try.func20, Try.ntmps20
        go_wp2_with fail
        exact bodyPost_ret (v := .agg #[.int .i64 X, .slice (some ⟨w.heap.size + 1 + 1 + 1, 0, none⟩) 1 1, .bool true, .int .i64 (0)]) (by simp [results, Try.results20, go_sem]) rfl ⟨_, rfl, refs_new4, bel4⟩
  have hk4 : (2 : Int) ≤ k := by omega
  have hk5 : 2 ≤ k := by omega
  have z3 : ∀ o o2 o3, (((w.alloc o).alloc o2).alloc o3).cell? ⟨g, k - 2, none⟩ = some (.int .i64 Z) := fun o o2 o3 => keep_alloc (keep_alloc (keep_alloc (z0 (by omega)) o) o2) o3
  have z4 : ∀ o o2 o3 o4, ((((w.alloc o).alloc o2).alloc o3).alloc o4).cell? ⟨g, k - 2, none⟩ = some (.int .i64 Z) := fun o o2 o3 o4 => keep_alloc (z3 o o2 o3) o4
  clear z0 h2
  simp only [hk5, if_true]
  by_cases hp : p = 0
  · subst hp
    obtain rfl : own = false := by rw [← hown]; unfold ownB; rw [hk0]; rfl
    simp only [Bool.false_eq_true, if_false]
    clear hown hk0 hk5
    go_enter Try.func20, Try.ntmps20
    go_wp2_with fail
    go_region
    go_wp2_with fail
    exact bodyPost_ret (v := .agg #[.int .i64 X, .slice (some ⟨w.heap.size + 1 + 1 + 1, 0, none⟩) 1 1, .bool true, .int .i64 (X - Z)]) (by simp [results, Try.results20, go_sem]) rfl ⟨_, rfl, refs_new4, bel4.drew⟩
  · have hp1 : 0 < p := by omega
    cases hown' : own with
    | true =>
      have hm : (k : Int) % p = 0 := by
        rw [hown'] at hown
        unfold ownB at hown
        rw [hk0] at hown
        simpa [hp1] using hown
      simp only [if_true]
      clear hown hk0 hk5 hown'
      go_enter Try.func20, Try.ntmps20
      go_wp2_with fail
      go_region
      go_wp2_with fail
      exact bodyPost_ret (v := .agg #[.int .i64 X, .slice none 0 0, .bool true, .int .i64 (X - Z)]) (by simp [results, Try.results20, go_sem]) rfl ⟨_, rfl, refs_nil _, bel3.drew⟩
    | false =>
      have hm : ¬ (k : Int) % p = 0 := by
        rw [hown'] at hown
        unfold ownB at hown
        rw [hk0] at hown
        simpa [hp1] using hown
      have hm1 : ((k : Int) % p != 0) = true := by simp [hm]
      simp only [Bool.false_eq_true, if_false]
      clear hown hk0 hk5 hown'
      go_enter Try.func20, Try.ntmps20
      go_wp2_with fail
      go_region
      go_wp2_with fail
      exact bodyPost_ret (v := .agg #[.int .i64 X, .slice (some ⟨w.heap.size + 1 + 1 + 1, 0, none⟩) 1 1, .bool true, .int .i64 (X - Z)]) (by simp [results, Try.results20, go_sem]) rfl ⟨_, rfl, refs_new4, bel4.drew⟩
end Go.Proofs.Ytmnkbcigjbiniaa
