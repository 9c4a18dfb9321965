/- The contract of split.Of. -/
import Derived.Test.YtekdhagmmflcnaaOf
namespace Go.Proofs.Ytekdhagmmflcnaa
open Go.RowKit Go.Shelf
attribute [local go_sem] Oper.semAt_some

theorem keeps_below {B : Nat} {W w' : World} (h : Below W.heap.size W w') : KeepsFrom B W w' := ⟨h.size, fun k _ _ hk _ => (h.block k (Array.getElem?_eq_some_iff.1 hk).1).trans hk⟩
theorem kb_below {C : Nat} {W w' : World} (h : Below W.heap.size W w') (hC : C + 4 ≤ W.heap.size) : KB C W w' := KB.of h hC
theorem box_below {B : Nat} {t : TypeId} {v : Value} {W w' : World} (hb : Boxed W B t v) (h : Below W.heap.size W w') : Boxed w' B t v := (h.block B hb.lt).trans hb
theorem kb_set {C B : Nat} {W : World} (v : Value) (h : B < C) : KB C W (W.setCell ⟨B, 0, none⟩ v) := fun j h1 _ => heap_setCell_other _ _ _ _ (by simp; omega)
theorem ext_rect (w h m n : Int) (k : Nat) : (rectL w h m n k).toArray = #[.int .i64 (fromI w m (colI m k)), .int .i64 (fromI h n (rowI m n k)), .int .i64 (fromI w m (colI m k + 1) - fromI w m (colI m k)), .int .i64 (fromI h n (rowI m n k + 1) - fromI h n (rowI m n k))] := rfl

set_option maxRecDepth 100000 in
set_option maxHeartbeats 2000000 in
theorem of_any (w h m n x y : Int) (W : World) :
    Calls Try.prog 11 #[.int .i64 w, .int .i64 h, .int .i64 m, .int .i64 n, .int .i64 x, .int .i64 y] W fun e w' => e = .returned (.int .i64 (ofI w h m n x y)) ∧ Below W.heap.size W w' := by
  refine (callsIn_wide (n := 8)).1 ?_
  refine callsIn_of_wp_marks Try.func11 rfl trivial ?_ rfl
  simp only [Try.ntmps11, List.size_toArray, List.length_cons, List.length_nil, Nat.reduceAdd, Nat.reduceSub, Array.replicate_succ, Array.replicate_zero, List.push_toArray, List.append_toArray, List.nil_append, List.cons_append]
  have hwide : ∀ k, Fence.wide.fn k := fun _ => trivial
  have hdep : Fence.wide.depth = none := rfl
  have hrnd : Fence.wide.round = none := rfl
  gi_wp2_with (gi_at_call 15; refine (callsIn_wide.2 (all_any _ _ _ _ _)).mono ?_; rintro e W0 ⟨rfl, hA⟩)
  have bX0 := ((Boxed.new W 3 (.int .i64 x)).alloc (.cells #[.int .i64 y] 3)).alloc (.cells #[.int .i64 0] 3)
  have bY0 := (Boxed.new (W.alloc (.cells #[.int .i64 x] 3)) 3 (.int .i64 y)).alloc (.cells #[.int .i64 0] 3)
  have bR0 := Boxed.new ((W.alloc (.cells #[.int .i64 x] 3)).alloc (.cells #[.int .i64 y] 3)) 3 (.int .i64 0)
  have hB1 : Below W.heap.size W (((W.alloc (.cells #[.int .i64 x] 3)).alloc (.cells #[.int .i64 y] 3)).alloc (.cells #[.int .i64 0] 3)) := (((Below.refl _ W).alloc (Nat.le_refl _) _).alloc (by simp) _).alloc (by simp; omega) _
  have hB0 : Below W.heap.size W W0 := hB1.trans (hA.below.mono (by simp; omega))
  have bX : Boxed W0 W.heap.size 3 (.int .i64 x) := (hA.below.block W.heap.size (by simp; omega)).trans bX0
  have bY : Boxed W0 (W.heap.size + 1) 3 (.int .i64 y) := (hA.below.block (W.heap.size + 1) (by simp)).trans (by rw [World.size_alloc] at bY0; exact bY0)
  have bR : Boxed W0 (W.heap.size + 1 + 1) 3 (.int .i64 0) := (hA.below.block (W.heap.size + 1 + 1) (by simp)).trans (by rw [World.size_alloc, World.size_alloc] at bR0; exact bR0)
  have hsz := hA.size
  have c0 := hA.c0
  have c1 := hA.c1
  have c2 := hA.c2
  have c3 := hA.c3
  simp only [World.size_alloc] at hsz c0 c1 c2 c3
  clear hB1 bX0 bY0 bR0 hA
  refine wpIn_rangeFunc_ownH rfl (by omega) (gf := 22) (lb := #[.pointer (some ⟨W.heap.size + 1 + 1 + 1, 0, none⟩), .pointer (some ⟨W.heap.size + 1 + 1 + 1 + 1, 0, none⟩), .pointer (some ⟨W.heap.size + 1 + 1 + 1 + 2, 0, none⟩), .pointer (some ⟨W.heap.size + 1 + 1 + 1 + 3, 0, none⟩)]) rfl trivial (enters_of Try.func22 (by kernel_rfl) rfl)
    (all_stops 7 (W.heap.size + 1 + 1 + 1) w h m n W0 (by omega) c0 c1 c2 c3) KB.trans (KB_b (by omega)) (Below.refl _ _) (fun _ => rfl)
    (fun pre W' => (((((∀ k ∈ pre, inAt w h m n x y k = false) ∧ Boxed W' W.heap.size 3 (.int .i64 x)) ∧ Boxed W' (W.heap.size + 1) 3 (.int .i64 y)) ∧ Boxed W' (W.heap.size + 1 + 1) 3 (.int .i64 0)) ∧ Below W.heap.size W W') ∧ W.heap.size + 7 ≤ W'.heap.size)
    (fun c pre W' => (c = .ret ∧ ∃ ini k, pre = ini ++ [k] ∧ (∀ j ∈ ini, inAt w h m n x y j = false) ∧ inAt w h m n x y k = true ∧ Boxed W' (W.heap.size + 1 + 1) 3 (.int .i64 (k : Nat))) ∧ Below W.heap.size W W')
    (OwnFrom.and (OwnFrom.and (OwnFrom.and (OwnFrom.and (OwnFrom.and (ownFrom_pure _ _) (Own.from (boxed_own _ _ _) _)) (Own.from (boxed_own _ _ _) _)) (Own.from (boxed_own _ _ _) _)) (ownFrom_below (Nat.le_refl _) (by omega))) (size_own _ _))
    (fun c => OwnFrom.and (fun s X Y row hs hg hr => by obtain ⟨e1, ini, k, e2, e3, e4, e5⟩ := hs; exact ⟨e1, ini, k, e2, e3, e4, boxed_own (W.heap.size + 1 + 1) 3 (fun (_ : Unit) => Value.int .i64 (k : Nat)) () X Y row e5 hg (fun r e => (hr r e).2)⟩) (ownFrom_below (Nat.le_refl _) (by omega)))
    ⟨⟨⟨⟨⟨by simp, bX⟩, bY⟩, bR⟩, hB0⟩, by omega⟩
    (fun k a' W' => ∃ Bx, W'.heap[Bx]? = some (.cells (rectL w h m n k).toArray 28 (0, 0)) ∧ a' = { tmps := #[.int .i64 w, .int .i64 h, .int .i64 m, .int .i64 n, .int .i64 x, .int .i64 y, undef, undef, undef, undef, .pointer (some ⟨W.heap.size, 0, none⟩), .pointer (some ⟨W.heap.size + 1, 0, none⟩), .pointer (some ⟨W.heap.size + 1 + 1, 0, none⟩), .int .i64 (k : Nat), .pointer (some ⟨Bx, 0, none⟩), .int .i64 w, .int .i64 h, .int .i64 m, .int .i64 n, .func (.func 22) #[] #[.pointer (some ⟨W.heap.size + 1 + 1 + 1, 0, none⟩), .pointer (some ⟨W.heap.size + 1 + 1 + 1 + 1, 0, none⟩), .pointer (some ⟨W.heap.size + 1 + 1 + 1 + 2, 0, none⟩), .pointer (some ⟨W.heap.size + 1 + 1 + 1 + 3, 0, none⟩)], .int .i64 (k : Nat), rectV w h m n k, undef, undef, undef, undef, undef], defers := [] })
    (fun k a' s X Y row hs hg hr => by obtain ⟨Bx, e1, e2⟩ := hs; exact ⟨Bx, blk_own Bx 28 (fun (_ : Unit) => (rectL w h m n k).toArray) () X Y row e1 hg (fun r e => (hr r e).2), e2⟩)
    ?assign ?body ?done ?stop
  case assign =>
    rintro l pre k W1 K ⟨⟨⟨⟨⟨hp, hX⟩, hY⟩, hR⟩, hB⟩, h5⟩ hK
    simp only [recV, rectV]
    have hs1 := hB.size
    gi_wp2
    exact hK _ _ ((KeepsOthers.alloc _ _).from _) (KB.of ((Below.refl W1.heap.size W1).alloc (Nat.le_refl _) _) (by omega)) ⟨⟨⟨⟨⟨hp, hX.alloc _⟩, hY.alloc _⟩, hR.alloc _⟩, hB.alloc hs1 _⟩, by simp; omega⟩ ⟨W1.heap.size, heap_alloc_new _ _, rfl⟩
  case body =>
    rintro l pre k a' W1 hl ⟨r, hr⟩ ⟨⟨⟨⟨⟨hp, hX⟩, hY⟩, hR⟩, hB⟩, h5⟩ ⟨Bx, hBx, rfl⟩ hlt
    have hright := cnt_right hlt
    obtain ⟨⟨g0, g1⟩, g2, g3⟩ := rect_bd hright k
    have hcX := hX.cell
    have hcY := hY.cell
    have hs1 := hB.size
    rw [ext_rect] at hBx
    have r0 := cell_of_row _ _ 0 _ _ _ hBx
    have r1 := cell_of_row _ _ 1 _ _ _ hBx
    have r2 := cell_of_row _ _ 2 _ _ _ hBx
    have r3 := cell_of_row _ _ 3 _ _ _ hBx
    simp only [List.getElem?_toArray, List.getElem?_cons_zero, List.getElem?_cons_succ] at r0 r1 r2 r3
    clear hBx hr
    have hh := has_any (fromI w m (colI m k)) (fromI h n (rowI m n k)) (fromI w m (colI m k + 1) - fromI w m (colI m k)) (fromI h n (rowI m n k + 1) - fromI h n (rowI m n k)) x y W1 g0 g1 g2 g3
    change Calls Try.prog 20 _ W1 (fun e w' => e = .returned (.bool (inAt w h m n x y k)) ∧ Below W1.heap.size W1 w') at hh
    have hh' := Lib.hid hh
    clear hh g0 g1 g2 g3
    cases hin : inAt w h m n x y k with
    | true =>
      rw [hin] at hh'
      have HIN := Lib.hid hin
      clear hin
      gi_wp2_with fail
      refine (CallsIn.inRound l (callsIn_wide.2 hh'.out)).mono ?_
      rintro e w2 ⟨rfl, hb2⟩
      have hR2 := box_below hR hb2
      have hcR := hR2.cell
      have hfR := hR2.frozen
      clear r0 r1 r2 r3 hcX hcY hh'
      gi_wp2
      exact ⟨(keeps_below hb2).trans ((KeepsOthers.setCell _ _ _).from _), ⟨rfl, pre, k, rfl, hp, HIN.out, hR2.set _⟩, (hB.trans (hb2.mono hs1)).setCell (p := ⟨W.heap.size + 1 + 1, 0, none⟩) (by simp; omega) _⟩
    | false =>
      rw [hin] at hh'
      have HIN := Lib.hid hin
      clear hin
      gi_wp2_with fail
      refine (CallsIn.inRound l (callsIn_wide.2 hh'.out)).mono ?_
      rintro e w2 ⟨rfl, hb2⟩
      clear r0 r1 r2 r3 hcX hcY hh'
      gi_wp2
      refine ⟨keeps_below hb2, kb_below hb2 (by omega), ⟨⟨⟨⟨⟨fun j hj => ?_, box_below hX hb2⟩, box_below hY hb2⟩, box_below hR hb2⟩, hB.trans (hb2.mono hs1)⟩, by have := hb2.size; omega⟩⟩
      rcases List.mem_append.1 hj with hj | hj
      · exact hp j hj
      · simp at hj; subst hj; exact HIN.out
  case done =>
    rintro D ys W1 hD rfl ⟨⟨⟨⟨⟨hp, hX⟩, hY⟩, hR⟩, hB⟩, h5⟩ hK
    have hcR := hR.cell
    have hfR := hR.frozen
    gi_wp2
    have hK' := (KeepsOthers.setCell W1 ⟨W.heap.size + 1 + 1, 0, none⟩ (.int .i64 (-1))).same D _ hK rfl
    refine ⟨by simp, .inl ⟨_, _, rfl, run_takeDeferred hK', ?_⟩⟩
    have hc5 := cell_kept (hR.set (.int .i64 (-1))).cell (grownBy_putObj' _ D (.deferred none)) (fun r e => by cases e; exact ⟨_, hK', rfl⟩)
    refine ⟨.int .i64 (-1), ?_, by rw [of_none hp], (hB.setCell (p := ⟨W.heap.size + 1 + 1, 0, none⟩) (by simp; omega) _).trans (belowK_b (w := W) (Nat.le_refl _) _ D _ _ (by omega) hK' rfl rfl)⟩
    simp [results, Try.f11, go_sem, hc5]
  case stop =>
    rintro D c pre W1 hD ⟨k, hk, rfl⟩ ⟨⟨rfl, ini, last, e1, e2, e3, hR⟩, hB⟩ hK
    gi_wp2
    refine ⟨by simp, .inl ⟨_, _, rfl, run_takeDeferred hK, ?_⟩⟩
    have hc5 := cell_kept hR.cell (grownBy_putObj' _ D (.deferred none)) (fun r e => by cases e; exact ⟨_, hK, rfl⟩)
    obtain ⟨k', rfl⟩ : ∃ k', k = k' + 1 := by
      cases k with
      | zero => simp at e1
      | succ k' => exact ⟨k', rfl⟩
    rw [List.range_succ] at e1
    obtain ⟨rfl, e5⟩ := List.append_inj' e1 rfl
    obtain rfl : k' = last := by simpa using e5
    refine ⟨.int .i64 (k' : Nat), ?_, by rw [of_some (by omega) e2 e3], hB.trans (belowK_b (w := W) (Nat.le_refl _) W1 D _ _ (by omega) hK rfl rfl)⟩
    simp [results, Try.f11, go_sem, hc5]
end Go.Proofs.Ytekdhagmmflcnaa
