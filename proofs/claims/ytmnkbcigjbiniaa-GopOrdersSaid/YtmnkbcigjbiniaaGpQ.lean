/- The contract of gop.List. -/
import Derived.Test.YtmnkbcigjbiniaaGpO
namespace Go.Proofs.Ytmnkbcigjbiniaa
open Go.RowKit Go.Shelf
attribute [local go_sem] Oper.semAt_some

theorem ahead_length {n p b : Int} (k : Nat) : (ahead n p b (k + 1)).length = ancA n b k + 1 := by
  induction k with
  | zero =>
    rw [ahead_succ, List.length_append, group_len]
    have : ancA n b 0 = 0 := anc_zero _ _
    rw [this]; rfl
  | succ k ih =>
    rw [ahead_succ, List.length_append, ih, group_len]
    have := (ancA_succ n b k).1
    unfold gapN
    rw [if_neg (by omega)]
    rw [show k + 1 - 1 = k by omega]
    omega
theorem shots_len {n p b : Int} (h : okA n p b = true) : (shots n p b).length = n.toNat := by
  obtain ⟨_, h1, h2⟩ := okA_yes h
  have hc : cntA n p b = cntG n.toNat (stepA b) := by unfold cntA; rw [if_pos h]
  have hpos : 0 < cntA n p b := by rw [hc]; unfold cntG; exact Nat.lt_of_lt_of_le (Nat.succ_pos _) (Nat.le_add_right _ _)
  rw [← ahead_all]
  obtain ⟨k, hk⟩ : ∃ k, cntA n p b = k + 1 := ⟨cntA n p b - 1, by omega⟩
  rw [hk, ahead_length]
  have := anc_last (N := n.toNat) (s := stepA b)
  rw [← hc, hk] at this
  unfold ancA
  rw [show k + 1 - 1 = k by omega] at this
  omega
theorem shots_le (n p b : Int) : (shots n p b).length ≤ 1000 := by
  cases h : okA n p b with
  | true => rw [shots_len h]; obtain ⟨_, h1, h2⟩ := okA_yes h; omega
  | false =>
    have hs : shots n p b = [] := by unfold shots cntA; rw [if_neg (by simp [h])]; rfl
    rw [hs]; simp

/-- the cells of shots -/
def cellX (x : ShX) : List Value := [.int .i64 x.1.num, x.2, .bool x.1.kept, .int .i64 x.1.ret]
def rowX (xs : List ShX) : List Value := xs.flatMap cellX
theorem rowX_snoc (xs : List ShX) (x : ShX) : rowX (xs ++ [x]) = rowX xs ++ cellX x := by simp [rowX]
theorem refs_own : Own (fun (x : ShX) W => ShG x W) := fun _ X Y row hs hg hrow => by
  rcases hs with h | ⟨h, g, hv, hh⟩
  · exact .inl h
  · refine .inr ⟨h, g, hv, (hg.block g (block_lt hh) (fun e => ?_)).trans hh⟩
    obtain ⟨o, ho, hc⟩ := hrow g e.symm
    rw [hh] at ho; cases ho; cases hc
theorem all_own (B : Nat) : OwnFrom B (fun (xs : List ShX) W => ∀ x ∈ xs, ShG x W) := fun _ X Y row hs hg hrow x hx => refs_own x X Y row (hs x hx) hg (fun r e => (hrow r e).2)
theorem size_own (n : Nat) {β : Type} (B : Nat) : OwnFrom B (fun (_ : β) W => n ≤ W.heap.size) := fun _ _ _ _ hs hg _ => Nat.le_trans hs hg.size
theorem blk_own {β : Type} (B : Nat) (t : TypeId) (f : β → Array Value) : Own (fun s W => W.heap[B]? = some (.cells (f s) t (0, 0))) := fun s X Y row hs hg hrow => by
  refine (hg.block B (block_lt hs) (fun e' => ?_)).trans hs
  obtain ⟨o, ho, hc⟩ := hrow B e'.symm
  rw [hs] at ho; cases ho; cases hc
theorem own_mono {w : World} {base base' size n : Nat} {e : TypeId} {v : Value} {xs : List Value} (h : w.ownsRow base e size v n xs) (hb : base' ≤ base) : w.ownsRow base' e size v n xs := own_base h hb
theorem own_type {w : World} {base size n : Nat} {e : TypeId} {v : Value} {xs : List Value} (h : w.ownsRow base e size v n xs) : ∀ r, v.ownBlock = some r → ∃ cs t fr, w.heap[r]? = some (.cells cs t fr) ∧ t = e := by
  intro r hr
  rcases h.2 with ⟨h1, _⟩ | ⟨g, cap, cur, hv, hg, hh, _⟩
  · rw [h1] at hr; cases hr
  · rw [hv] at hr; cases hr; exact ⟨_, _, _, hh, rfl⟩
theorem cells_new (w : World) (cs : Array Value) (t : TypeId) : ∀ j u, cs.toList[j]? = some u → (w.alloc (.cells cs t)).cell? ((⟨w.heap.size, 0, none⟩ : Addr).add j) = some u := by
  intro j u h
  have hadd : (⟨w.heap.size, 0, none⟩ : Addr).add j = ⟨w.heap.size, j, none⟩ := by unfold Addr.add; split <;> simp_all
  rw [hadd, cell_of_row _ _ _ _ _ _ (heap_alloc_new w _)]
  simpa using h
/-- Behind an append to the slice in a box. -/
theorem append_KP {W w1 : World} {n₁ B C : Nat} {size : Nat} {v v' : Value} {k : Nat} {xs : List Value} {tmp : Obj} (hrow : W.ownsRow n₁ 32 size v k xs) (hn : n₁ ≤ W.heap.size) (hgrow : (W.alloc tmp).grownBy w1 v.ownBlock) (hC : C + 2 ≤ n₁) (hBC : B < C) :
    KP C W (w1.setCell ⟨B, 0, none⟩ v') := by
  have hs := hgrow.size
  rw [World.size_alloc] at hs
  refine ⟨by simp; omega, fun j h1 h2 => ?_, fun j cs fr h1 h2 => ?_⟩
  · rw [heap_setCell_other _ _ _ _ (by simp; omega), hgrow.block j (by simp; omega) (fun e => by have := (hrow.lt j e.symm).1; omega)]
    exact Below.heap_alloc _ _ _ (by omega)
  · have hj := block_lt h2
    rw [heap_setCell_other _ _ _ _ (by simp; omega), hgrow.block j (by simp; omega) (fun e => ?_), Below.heap_alloc _ _ _ (by omega)]
    · exact h2
    · obtain ⟨_, _, _, h3, h4⟩ := own_type hrow j e.symm
      rw [h2] at h3; cases h3; cases h4
theorem append_refs {W w1 : World} {n₁ B : Nat} {size : Nat} {v v' u : Value} {k : Nat} {xs : List Value} {tmp : Obj} (hrow : W.ownsRow n₁ 32 size v k xs) (hgrow : (W.alloc tmp).grownBy w1 v.ownBlock) (hbx : Boxed W B 27 u) (hv : ∀ r, v.ownBlock = some r → r ≠ B) {x : ShX} (h : ShG x W) :
    ShG x (w1.setCell ⟨B, 0, none⟩ v') := by
  have h1 : ShG x (W.alloc tmp) := RefsAt.below h ((Below.refl _ W).alloc (Nat.le_refl _) _)
  have h2 : ShG x w1 := RefsAt.grown h1 hgrow (fun r e => by
    obtain ⟨cs, t, fr, h3, h4⟩ := own_type (hrow.alloc tmp) r e
    exact ⟨cs, t, fr, h3, by rw [h4]; decide⟩)
  refine RefsAt.grown h2 (grownBy_setCell' w1 B v') (fun r e => ?_)
  cases e
  have h3 := hgrow.block B (by have := hbx.lt; simp; omega) (fun e => hv B e.symm rfl)
  exact ⟨#[u], 27, (0, 0), h3.trans (hbx.alloc tmp), by decide⟩
theorem info32 : (Try.prog.info? 32).map (fun i => (i.zero, i.size, i.bytes)) = some (some (.agg #[.int .i64 0, .slice none 0 0, .bool false, .int .i64 0]), 4, 48) := by kernel_rfl
end Go.Proofs.Ytmnkbcigjbiniaa
