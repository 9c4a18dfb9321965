/- The contract of split.List. -/
import Derived.Test.YtekdhagmmflcnaaList
namespace Go.Proofs.Ytekdhagmmflcnaa
open Go.RowKit Go.Shelf
attribute [local go_sem] Oper.semAt_some

def rectL (w h m n : Int) (k : Nat) : List Value := [.int .i64 (fromI w m (colI m k)), .int .i64 (fromI h n (rowI m n k)), .int .i64 (fromI w m (colI m k + 1) - fromI w m (colI m k)), .int .i64 (fromI h n (rowI m n k + 1) - fromI h n (rowI m n k))]
def partsL (w h m n : Int) (ks : List Nat) : List Value := ks.flatMap (rectL w h m n)
theorem partsL_snoc (w h m n : Int) (ks : List Nat) (k : Nat) : partsL w h m n (ks ++ [k]) = partsL w h m n ks ++ rectL w h m n k := by simp [partsL]
theorem info28 : (Try.prog.info? 28).map (fun i => (i.zero, i.size, i.bytes)) = some (some (.agg #[.int .i64 0, .int .i64 0, .int .i64 0, .int .i64 0]), 4, 32) := by kernel_rfl

theorem cells_new (w : World) (cs : Array Value) (t : TypeId) : ∀ j u, cs.toList[j]? = some u → (w.alloc (.cells cs t)).cell? ((⟨w.heap.size, 0, none⟩ : Addr).add j) = some u := by
  intro j u h
  have hadd : (⟨w.heap.size, 0, none⟩ : Addr).add j = ⟨w.heap.size, j, none⟩ := by unfold Addr.add; split <;> simp_all
  rw [hadd, cell_of_row _ _ _ _ _ _ (heap_alloc_new w _)]
  simpa using h

/-- A block's cells speak of cells alone. -/
theorem blk_own {β : Type} (B : Nat) (t : TypeId) (f : β → Array Value) : Own (fun s W => W.heap[B]? = some (.cells (f s) t (0, 0))) := fun s X Y row hs hg hrow => by
  have hlt : B < X.heap.size := (Array.getElem?_eq_some_iff.1 hs).1
  have hne : some B ≠ row := fun e' => by obtain ⟨o, ho, hc⟩ := hrow B e'.symm; rw [hs] at ho; cases ho; cases hc
  exact (hg.block B hlt hne).trans hs

theorem own_mono {w : World} {base base' size n : Nat} {e : TypeId} {v : Value} {xs : List Value} (h : w.ownsRow base e size v n xs) (hb : base' ≤ base) : w.ownsRow base' e size v n xs := by
  refine ⟨h.1, ?_⟩
  rcases h.2 with h2 | ⟨g, cap, cur, hv, hg, r⟩
  · exact .inl h2
  · exact .inr ⟨g, cap, cur, hv, by omega, r⟩
/-- An append to a box's slice whose row lies beyond n₁ leaves the blocks between the box and n₁ as they lay. -/
theorem append_KB {W w1 : World} {n₁ B C : Nat} {e : TypeId} {size : Nat} {v v' : Value} {k : Nat} {xs : List Value} {tmp : Obj} (hrow : W.ownsRow n₁ e size v k xs) (hn : n₁ ≤ W.heap.size) (hgrow : (W.alloc tmp).grownBy w1 v.ownBlock) (hC : C + 4 ≤ n₁) (hBC : B < C) :
    KB C W (w1.setCell ⟨B, 0, none⟩ v') := fun j h1 h2 => by
  rw [heap_setCell_other _ _ _ _ (by simp; omega), hgrow.block j (by simp; omega) (fun e => by have := (hrow.lt j e.symm).1; omega)]
  exact Below.heap_alloc _ _ _ (by omega)
theorem size_own (n : Nat) {β : Type} (B : Nat) : OwnFrom B (fun (_ : β) W => n ≤ W.heap.size) := fun _ _ _ _ hs hg _ => Nat.le_trans hs hg.size

set_option maxRecDepth 100000 in
set_option maxHeartbeats 2000000 in
theorem list_any (w h m n : Int) (W : World) :
    Calls Try.prog 7 #[.int .i64 w, .int .i64 h, .int .i64 m, .int .i64 n] W fun e w' => ∃ v, e = .returned v ∧ w'.ownsRow W.heap.size 28 4 v (cntI w h m n) (partsL w h m n (List.range (cntI w h m n))) ∧ Below W.heap.size W w' := by
  obtain ⟨i0, hi, hz0, hz1, hz2⟩ := info_parts info28
  have hcn := cnt_le w h m n
  refine (callsIn_wide (n := 8)).1 ?_
  refine callsIn_of_wp_marks Try.func7 rfl trivial ?_ rfl
  simp only [Try.ntmps7, List.size_toArray, List.length_cons, List.length_nil, Nat.reduceAdd, Nat.reduceSub, Array.replicate_succ, Array.replicate_zero, List.push_toArray, List.append_toArray, List.nil_append, List.cons_append]
  have hwide : ∀ k, Fence.wide.fn k := fun _ => trivial
  have hdep : Fence.wide.depth = none := rfl
  have hrnd : Fence.wide.round = none := rfl
  gi_wp2_with (gi_at_call 15; refine (callsIn_wide.2 (all_any _ _ _ _ _)).mono ?_; rintro e W0 ⟨rfl, hA⟩)
  have bO0 := Boxed.new W 24 (.slice none 0 0)
  have hB1 : Below W.heap.size W (W.alloc (.cells #[.slice none 0 0] 24)) := (Below.refl _ W).alloc (Nat.le_refl _) _
  have hB0 : Below W.heap.size W W0 := hB1.trans (hA.below.mono (by simp))
  have bO : Boxed W0 W.heap.size 24 (.slice none 0 0) := (hA.below.block W.heap.size (by simp)).trans bO0
  have hsz := hA.size
  have c0 := hA.c0
  have c1 := hA.c1
  have c2 := hA.c2
  have c3 := hA.c3
  simp only [World.size_alloc] at hsz c0 c1 c2 c3
  clear hB1 bO0 hA
  refine wpIn_rangeFunc_ownH rfl (by omega) (gf := 22) (lb := #[.pointer (some ⟨W.heap.size + 1, 0, none⟩), .pointer (some ⟨W.heap.size + 1 + 1, 0, none⟩), .pointer (some ⟨W.heap.size + 1 + 2, 0, none⟩), .pointer (some ⟨W.heap.size + 1 + 3, 0, none⟩)]) rfl trivial (enters_of Try.func22 (by kernel_rfl) rfl)
    (all_stops 7 (W.heap.size + 1) w h m n W0 (by omega) c0 c1 c2 c3) KB.trans (KB_b (by omega)) (Below.refl _ _) (fun _ => rfl)
    (fun pre W' => ((∃ v, Boxed W' W.heap.size 24 v ∧ W'.ownsRow (W.heap.size + 5) 28 4 v pre.length (partsL w h m n pre) ∧ True) ∧ Below W.heap.size W W') ∧ W.heap.size + 5 ≤ W'.heap.size)
    (fun _ _ _ => False)
    (OwnFrom.and (OwnFrom.and (Own.from (holdsRow_own (W.heap.size + 5) W.heap.size 24 28 4 (fun pre => pre.length) (fun pre => partsL w h m n pre) (fun _ _ => True)) _) (ownFrom_below (Nat.le_refl _) (by omega))) (size_own _ _))
    (fun _ _ _ _ _ hs _ _ => hs)
    ⟨⟨⟨_, bO, World.ownsRow_nil _ _ _ _, trivial⟩, hB0⟩, by omega⟩
    (fun x a' W' => ∃ Bx, W'.heap[Bx]? = some (.cells (rectL w h m n x).toArray 28 (0, 0)) ∧ a' = { tmps := #[.int .i64 w, .int .i64 h, .int .i64 m, .int .i64 n, undef, undef, undef, undef, .slice none 0 0, .pointer (some ⟨W.heap.size, 0, none⟩), undef, .pointer (some ⟨Bx, 0, none⟩), .int .i64 w, .int .i64 h, .int .i64 m, .int .i64 n, .func (.func 22) #[] #[.pointer (some ⟨W.heap.size + 1, 0, none⟩), .pointer (some ⟨W.heap.size + 1 + 1, 0, none⟩), .pointer (some ⟨W.heap.size + 1 + 2, 0, none⟩), .pointer (some ⟨W.heap.size + 1 + 3, 0, none⟩)], .int .i64 (x : Nat), rectV w h m n x, undef, undef, undef, undef, undef], defers := [] })
    (fun x a' s X Y row hs hg hr => by obtain ⟨Bx, e1, e2⟩ := hs; exact ⟨Bx, blk_own Bx 28 (fun (_ : Unit) => (rectL w h m n x).toArray) () X Y row e1 hg (fun r e => (hr r e).2), e2⟩)
    ?assign ?body ?done ?stop
  case assign =>
    rintro l pre x W1 K ⟨⟨⟨v, hv, hrow, _⟩, hB⟩, h5⟩ hK
    simp only [recV, rectV]
    have hs1 := hB.size
    gi_wp2
    exact hK _ _ ((KeepsOthers.alloc _ _).from _) (KB.of ((Below.refl W1.heap.size W1).alloc (Nat.le_refl _) _) (by omega)) ⟨⟨⟨v, hv.alloc _, hrow.alloc _, trivial⟩, hB.alloc hs1 _⟩, by simp; omega⟩ ⟨W1.heap.size, heap_alloc_new _ _, rfl⟩
  case body =>
    rintro l pre x a' W1 hl ⟨r, hr⟩ ⟨⟨⟨v, hv, hrow, _⟩, hB⟩, h5⟩ ⟨Bx, hBx, rfl⟩ hlt
    have hc := hv.cell
    have hs1 := hB.size
    have hrl : (rectL w h m n x).toArray = #[.int .i64 (fromI w m (colI m x)), .int .i64 (fromI h n (rowI m n x)), .int .i64 (fromI w m (colI m x + 1) - fromI w m (colI m x)), .int .i64 (fromI h n (rowI m n x + 1) - fromI h n (rowI m n x))] := rfl
    rw [hrl] at hBx
    clear hrl
    have r0 := cell_of_row _ _ 0 _ _ _ hBx
    have r1 := cell_of_row _ _ 1 _ _ _ hBx
    have r2 := cell_of_row _ _ 2 _ _ _ hBx
    have r3 := cell_of_row _ _ 3 _ _ _ hBx
    simp only [List.getElem?_toArray, List.getElem?_cons_zero, List.getElem?_cons_succ] at r0 r1 r2 r3
    clear hBx hr
    gi_wp2_with (gi_at_builtin; refine wpListIn_append_own _ rfl _ _ 24 rfl (W.heap.size + 5) 28 i0 (.agg #[.int .i64 0, .int .i64 0, .int .i64 0, .int .i64 0]) 4 32 Try.underlying24 hi hz0 hz1 hz2 rfl (by decide) _ _ _ rfl (hrow.alloc _) ⟨W1.heap.size, 0, none⟩ 1 1 (rectL w h m n x) rfl rfl (cells_new _ (rectL w h m n x).toArray _) (by simp [rectL, Value.oneCell']) (by unfold maxLen; omega) (by omega) (by simp; omega) ?_; intro v' w1 hown' hgrow _; obtain ⟨g', cap', rfl⟩ := ownsRow_succ hown'; obtain ⟨hv1, hv2, hr2, hk2, hb2⟩ := hv.appended (by decide) (own_mono hrow (by omega)) hs1 (Nat.le_refl _) (own_mono hown' (by omega)) hgrow; have hc1 := hv1.cell; have hf1 := hv1.frozen)
    refine ⟨hk2.from _, append_KB hrow h5 hgrow (by omega) (by omega), ⟨⟨⟨_, hv2, ?_, trivial⟩, hB.trans hb2⟩, by have := hb2.size; omega⟩⟩
    rw [partsL_snoc, List.length_append]
    exact hown'.kept (grownBy_setCell' w1 W.heap.size _) (.inr (hv1.not_row (by decide) hown').symm)
  case done =>
    rintro D ys W1 hD rfl ⟨⟨⟨v, hv, hrow, _⟩, hB⟩, h5⟩ hK
    have hc := hv.cell
    gi_wp2
    refine ⟨by simp, .inl ⟨_, _, rfl, run_takeDeferred hK, ?_⟩⟩
    rw [List.length_range] at hrow
    exact ⟨_, results_tmp rfl _ _ _, v, rfl, own_mono (ownsRow_putObj hrow _ hK rfl) (by omega), hB.trans (belowK_b (w := W) (Nat.le_refl _) W1 D _ _ (by omega) hK rfl rfl)⟩
  case stop =>
    rintro D c pre W1 _ _ h _
    exact h.elim
end Go.Proofs.Ytekdhagmmflcnaa
