/- The law SplitStops: the second iteration. -/
import Derived.Test.YtekdhagmmflcnaaStD
import Derived.Test.YtekdhagmmflcnaaStC
import Derived.Test.YtekdhagmmflcnaaROf
namespace Go.Proofs.Ytekdhagmmflcnaa.splitStops
open Go.RowKit Go.Shelf

theorem own_shape2 {w : World} {base size n : Nat} {e : TypeId} {v : Value} {xs : List Value} (h : w.ownsRow base e size v n xs) :
    ∃ A cap g, v = .slice A n cap ∧ (n = 0 ∨ A = some ⟨g, 0, none⟩) ∧ (n = 0 ∨ g < w.heap.size ∧ base ≤ g) ∧ ∀ j, j < n * size → w.cell? ⟨g, j, none⟩ = xs[j]? := by
  obtain ⟨hl, ⟨rfl, h0⟩ | ⟨g, cap, cur, hv, hg, hh, _, _, _, ht⟩⟩ := h
  · subst h0; exact ⟨none, 0, 0, rfl, .inl rfl, .inl rfl, fun j hj => by omega⟩
  · refine ⟨_, cap, g, hv, .inr rfl, .inr ⟨(Array.getElem?_eq_some_iff.1 hh).1, hg⟩, fun j hj => ?_⟩
    rw [cell_of_row _ _ _ _ _ _ hh, ← ht, List.getElem?_take_of_lt hj]; simp

/-- The boxes of the second iteration: ok, the list and k, and the iterator's own. -/
structure Prt (w : World) (X Y W H m n stop : Int) (bo b g cap : Nat) (A : Option Addr) (k : Nat) (V : World) : Prop where
  base : Base w X Y W H m n stop V
  o : Boxed V bo 4 (.bool true)
  l : Boxed V b 24 (.slice A (cntI W H m n) cap)
  k : Boxed V (b + 1) 3 (.int .i64 (k : Nat))
  c0 : Boxed V (b + 1 + 1 + 0) 3 (.int .i64 W)
  c1 : Boxed V (b + 1 + 1 + 1) 3 (.int .i64 H)
  c2 : Boxed V (b + 1 + 1 + 2) 3 (.int .i64 m)
  c3 : Boxed V (b + 1 + 1 + 3) 3 (.int .i64 n)
  row : ∀ k t, k < cntI W H m n → t < 4 → V.cell? ⟨g, k * 4 + t, none⟩ = (rectL W H m n k)[t]?
theorem rect_some (w h m n : Int) (k : Nat) {t : Nat} (ht : t < 4) : ∃ u, (rectL w h m n k)[t]? = some u := ⟨_, List.getElem?_eq_getElem (by simp [rectL]; omega)⟩
theorem cell_below {V V' : World} {a : Addr} {u : Option Value} (hu : ∃ x, u = some x) (h : V.cell? a = u) (hb : Below V.heap.size V V') : V'.cell? a = u := by
  obtain ⟨x, rfl⟩ := hu
  exact (hb.cell (block_lt_of_cell h)).trans h
theorem Prt.below {w : World} {X Y W H m n stop : Int} {bo b g cap : Nat} {A : Option Addr} {k : Nat} {V V' : World} (h : Prt w X Y W H m n stop bo b g cap A k V) (hb : Below V.heap.size V V') : Prt w X Y W H m n stop bo b g cap A k V' :=
  ⟨h.base.below hb, boxed_below h.o hb, boxed_below h.l hb, boxed_below h.k hb, boxed_below h.c0 hb, boxed_below h.c1 hb, boxed_below h.c2 hb, boxed_below h.c3 hb, fun k t hk ht => cell_below (rect_some _ _ _ _ k ht) (h.row k t hk ht) hb⟩

theorem parts_call (w V V2 : World) (X Y W H m n stop : Int) (bo g cap : Nat) (A : Option Addr) (hM : Base w X Y W H m n stop V) (ho : Boxed V bo 4 (.bool true)) (hbo : w.heap.size + 3 ≤ bo)
    (hA : cntI W H m n = 0 ∨ A = some ⟨g, 0, none⟩) (hg : cntI W H m n = 0 ∨ g < V.heap.size ∧ bo < g) (hrow : ∀ k t, k < cntI W H m n → t < 4 → V.cell? ⟨g, k * 4 + t, none⟩ = (rectL W H m n k)[t]?)
    (hV : Boxes W H m n ((V.alloc (.cells #[.slice A (cntI W H m n) cap] 24)).alloc (.cells #[.int .i64 0] 3)) V2) :
    Calls Try.prog 22 #[.func (.func 16) #[] #[.pointer (some ⟨bo, 0, none⟩), .pointer (some ⟨V.heap.size + 1, 0, none⟩), .pointer (some ⟨V.heap.size, 0, none⟩), .pointer (some ⟨w.heap.size + 1 + 1, 0, none⟩)],
      .pointer (some ⟨V.heap.size + 1 + 1, 0, none⟩), .pointer (some ⟨V.heap.size + 1 + 1 + 1, 0, none⟩), .pointer (some ⟨V.heap.size + 1 + 1 + 2, 0, none⟩), .pointer (some ⟨V.heap.size + 1 + 1 + 3, 0, none⟩)] V2 fun e w' =>
      e = .returned (.tuple #[]) ∧ ∃ k : Nat, Prt w X Y W H m n stop bo V.heap.size g cap A k w' ∧ (k = cntI W H m n ∨ (k : Int) = stop ∧ k ≤ cntI W H m n) := by
  have hlo := hM.lt
  have hbV := ho.lt
  have hcn := cnt_le W H m n
  have hst : Prt w X Y W H m n stop bo V.heap.size g cap A 0 V2 := by
    have e1 : (V.alloc (.cells #[.slice A (cntI W H m n) cap] 24)).heap.size = V.heap.size + 1 := by simp
    have e2 : ((V.alloc (.cells #[.slice A (cntI W H m n) cap] 24)).alloc (.cells #[.int .i64 0] 3)).heap.size = V.heap.size + 1 + 1 := by simp
    have b1 := Boxed.new V 24 (.slice A (cntI W H m n) cap)
    have b2 := Boxed.new (V.alloc (.cells #[.slice A (cntI W H m n) cap] 24)) 3 (.int .i64 0)
    rw [e1] at b2
    have hb := hV.below
    have k0 := hV.c0
    have k1 := hV.c1
    have k2 := hV.c2
    have k3 := hV.c3
    rw [e2] at k0 k1 k2 k3
    have hVb : Below V.heap.size V V2 := ((((Below.refl _ V).alloc (Nat.le_refl _) _).alloc (by omega) _)).trans (hb.mono (by omega))
    exact ⟨hM.below hVb, boxed_below ho hVb, boxed_below (b1.alloc _) hb, boxed_below b2 hb, k0, k1, k2, k3, fun k t hk ht => cell_below (rect_some _ _ _ _ k ht) (hrow k t hk ht) hVb⟩
  refine (all1_any W H m n (V.heap.size + 1 + 1) 16 _ _ (fun k V1 => Prt w X Y W H m n stop bo V.heap.size g cap A k V1 ∧ (k = 0 ∨ (k : Int) ≠ stop)) (fun V1 => ∃ k : Nat, Prt w X Y W H m n stop bo V.heap.size g cap A k V1 ∧ (k : Int) = stop ∧ k ≤ cntI W H m n) (fun _ _ => by kernel_rfl) (fun k V1 h => ⟨h.1.c0, h.1.c1, h.1.c2, h.1.c3⟩) (fun k V1 V3 h hb => ⟨h.1.below hb, h.2⟩) ?_ ⟨hst, .inl rfl⟩).mono ?_
  · rintro hri k V1 ⟨hP, hk⟩ hlt0
    have hlt : k < cntI W H m n := by unfold cntI; rw [if_pos hri]; exact hlt0
    rcases hA with hA | rfl
    · omega
    rcases hg with hg | ⟨hg1, hg2⟩
    · omega
    have f0 := hP.row k 0 hlt (by omega)
    have f1 := hP.row k 1 hlt (by omega)
    have f2 := hP.row k 2 hlt (by omega)
    have f3 := hP.row k 3 hlt (by omega)
    simp only [rectL, List.getElem?_cons_zero, List.getElem?_cons_succ, Nat.add_zero] at f0 f1 f2 f3
    refine (stops2_any _ _ _ _ stop k (cntI W H m n) cap g bo (V.heap.size + 1) V.heap.size (w.heap.size + 1 + 1) V1 hP.o hP.k hP.l hP.base.s f0 f1 f2 f3 hlt (by omega) ⟨by omega, by omega, by omega⟩).mono ?_
    rintro e V3 ⟨rfl, rfl⟩
    have hP2 := hP.below ((Below.refl _ V1).alloc (Nat.le_refl _) (.cells #[.int .i64 (fromI W m (colI m k)), .int .i64 (fromI H n (rowI m n k)), .int .i64 (fromI W m (colI m k + 1) - fromI W m (colI m k)), .int .i64 (fromI H n (rowI m n k + 1) - fromI H n (rowI m n k))] 28))
    generalize V1.alloc (.cells #[.int .i64 (fromI W m (colI m k)), .int .i64 (fromI H n (rowI m n k)), .int .i64 (fromI W m (colI m k + 1) - fromI W m (colI m k)), .int .i64 (fromI H n (rowI m n k + 1) - fromI H n (rowI m n k))] 28) = V4 at hP2 ⊢
    have hP3 : Prt w X Y W H m n stop bo V.heap.size g cap (some ⟨g, 0, none⟩) (k + 1) (((V4.setCell ⟨bo, 0, none⟩ (.bool true)).setCell ⟨V.heap.size + 1, 0, none⟩ (.int .i64 ((k : Int) + 1))).drewN 1) := by
      refine ⟨((hP2.base.set (by omega) _).set (by omega) _).drew 1, (hP2.o.set _).other (by omega) _, (hP2.l.other (by omega) _).other (by omega) _, ?_, (hP2.c0.other (by omega) _).other (by omega) _, (hP2.c1.other (by omega) _).other (by omega) _, (hP2.c2.other (by omega) _).other (by omega) _, (hP2.c3.other (by omega) _).other (by omega) _, fun k' t hk' ht => ?_⟩
      · have := (hP2.k.other (B' := bo) (by omega) (.bool true)).set (.int .i64 ((k : Int) + 1))
        rw [Int.natCast_add]
        exact this
      · obtain ⟨u, hu⟩ := rect_some W H m n k' ht
        have h0 := hP2.row k' t hk' ht
        rw [hu] at h0 ⊢
        have e1 := (World.cell?_of_block (w := V4) (Below.heap_setCell V4 ⟨bo, 0, none⟩ (.bool true) g (by show g ≠ bo; omega)) (a := ⟨g, k' * 4 + t, none⟩)).trans h0
        exact (World.cell?_of_block (w := V4.setCell ⟨bo, 0, none⟩ (.bool true)) (Below.heap_setCell _ ⟨V.heap.size + 1, 0, none⟩ (.int .i64 ((k : Int) + 1)) g (by show g ≠ V.heap.size + 1; omega)) (a := ⟨g, k' * 4 + t, none⟩)).trans e1
    by_cases hs : (k : Int) + 1 = stop
    · exact .inr ⟨retb_eq (by rw [hs]; simp), k + 1, hP3, by omega, by omega⟩
    · exact .inl ⟨retb_eq (bne_iff_ne.2 hs), hP3, .inr (by omega)⟩
  · rintro e V3 ⟨rfl, h⟩
    refine ⟨rfl, ?_⟩
    rcases h with ⟨hP, _⟩ | ⟨k, hP, h2, h3⟩
    · exact ⟨_, hP, .inl rfl⟩
    · exact ⟨k, hP, .inr ⟨h2, h3⟩⟩
end Go.Proofs.Ytekdhagmmflcnaa.splitStops
