/- The law SplitStops: the boxes and the two iterations. -/
import Derived.Test.YtekdhagmmflcnaaStC
import Derived.Test.YtekdhagmmflcnaaROf
namespace Go.Proofs.Ytekdhagmmflcnaa.splitStops
open Go.RowKit Go.Shelf

/-- The boxes of the parameters. -/
structure Base (w : World) (X Y W H m n stop : Int) (V : World) : Prop where
  r : Rct V w.heap.size X Y W H
  p : V.heap[w.heap.size + 1]? = some (.cells #[.int .i64 m, .int .i64 n] 22 (0, 0))
  s : Boxed V (w.heap.size + 1 + 1) 3 (.int .i64 stop)
  bel : Below w.heap.size w V
theorem Base.lt {w : World} {X Y W H m n stop : Int} {V : World} (h : Base w X Y W H m n stop V) : w.heap.size + 3 ≤ V.heap.size := h.s.lt
theorem Base.below {w : World} {X Y W H m n stop : Int} {V V' : World} (h : Base w X Y W H m n stop V) (hb : Below V.heap.size V V') : Base w X Y W H m n stop V' := by
  have := h.lt
  exact ⟨(hb.block _ (by omega)).trans h.r, (hb.block _ (by omega)).trans h.p, (hb.block _ (by omega)).trans h.s, h.bel.trans (hb.mono (by omega))⟩
theorem Base.alloc {w : World} {X Y W H m n stop : Int} {V : World} (h : Base w X Y W H m n stop V) (o : Obj) : Base w X Y W H m n stop (V.alloc o) := h.below ((Below.refl _ V).alloc (Nat.le_refl _) o)
theorem Base.set {w : World} {X Y W H m n stop : Int} {V : World} (h : Base w X Y W H m n stop V) {B o : Nat} (hB : w.heap.size + 3 ≤ B) (v : Value) : Base w X Y W H m n stop (V.setCell ⟨B, o, none⟩ v) :=
  ⟨(Below.heap_setCell V ⟨B, o, none⟩ v _ (by show w.heap.size ≠ B; omega)).trans h.r, (Below.heap_setCell V ⟨B, o, none⟩ v _ (by show w.heap.size + 1 ≠ B; omega)).trans h.p, (Below.heap_setCell V ⟨B, o, none⟩ v _ (by show w.heap.size + 1 + 1 ≠ B; omega)).trans h.s, h.bel.setCell (p := ⟨B, o, none⟩) (by show w.heap.size ≤ B; omega) v⟩
theorem Base.drew {w : World} {X Y W H m n stop : Int} {V : World} (h : Base w X Y W H m n stop V) (k : Nat) : Base w X Y W H m n stop (V.drewN k) := ⟨h.r, h.p, h.s, below_drewN h.bel k⟩
theorem base_mk (w : World) (X Y W H m n stop : Int) : Base w X Y W H m n stop (((w.alloc (.cells #[.int .i64 X, .int .i64 Y, .int .i64 W, .int .i64 H] 28)).alloc (.cells #[.int .i64 m, .int .i64 n] 22)).alloc (.cells #[.int .i64 stop] 3)) := by
  have e1 : (w.alloc (.cells #[.int .i64 X, .int .i64 Y, .int .i64 W, .int .i64 H] 28)).heap.size = w.heap.size + 1 := by simp
  have e2 : ((w.alloc (.cells #[.int .i64 X, .int .i64 Y, .int .i64 W, .int .i64 H] 28)).alloc (.cells #[.int .i64 m, .int .i64 n] 22)).heap.size = w.heap.size + 1 + 1 := by simp
  have a1 := heap_alloc_new w (.cells #[.int .i64 X, .int .i64 Y, .int .i64 W, .int .i64 H] 28)
  have a2 := heap_alloc_new (w.alloc (.cells #[.int .i64 X, .int .i64 Y, .int .i64 W, .int .i64 H] 28)) (.cells #[.int .i64 m, .int .i64 n] 22)
  have a3 := heap_alloc_new ((w.alloc (.cells #[.int .i64 X, .int .i64 Y, .int .i64 W, .int .i64 H] 28)).alloc (.cells #[.int .i64 m, .int .i64 n] 22)) (.cells #[.int .i64 stop] 3)
  rw [e1] at a2
  rw [e2] at a3
  exact ⟨(Below.heap_alloc _ _ _ (by omega)).trans ((Below.heap_alloc _ _ _ (by omega)).trans a1), (Below.heap_alloc _ _ _ (by omega)).trans a2, a3, (((Below.refl _ w).alloc (Nat.le_refl _) _).alloc (by omega) _).alloc (by omega) _⟩

/-- The boxes of the first iteration: all, n, ok, and r's copy. -/
structure Pts (w : World) (X Y W H m n stop : Int) (b : Nat) (all : Int) (k : Nat) (V : World) : Prop where
  base : Base w X Y W H m n stop V
  a : Boxed V b 3 (.int .i64 all)
  n : Boxed V (b + 1) 3 (.int .i64 (k : Nat))
  o : Boxed V (b + 1 + 1) 4 (.bool true)
  q : Rct V (b + 1 + 1 + 1) X Y W H

theorem wrap_back {X i : Int} (h0 : 0 ≤ i) (h1 : i < 1024) : IntKind.i64.wrap (wrap64 (X + i) - X) = i := by
  rw [IntKind.wrap_i64]
  unfold wrap64; omega
theorem wrap_small {i : Int} (h0 : 0 ≤ i) (h1 : i < 1048577) : IntKind.i64.wrap i = i := by
  rw [IntKind.wrap_i64]
  omega
theorem mod_at {W : Int} {i j : Nat} (hW : 1 ≤ W) (hi : (i : Int) < W) : ((j * W.toNat + i : Nat) : Int).tmod W = i := by
  rw [Int.tmod_eq_emod_of_nonneg (by omega), idx_at (by omega), Int.add_comm, Int.add_mul_emod_self_right, Int.emod_eq_of_lt (by omega) hi]
theorem div_at {W : Int} {i j : Nat} (hW : 1 ≤ W) (hi : (i : Int) < W) : ((j * W.toNat + i : Nat) : Int).tdiv W = j := by
  rw [Int.tdiv_eq_ediv_of_nonneg (by omega), idx_at (by omega), Int.add_comm, Int.add_mul_ediv_right _ _ (by omega), Int.ediv_eq_zero_of_lt (by omega) hi]; omega

theorem boxed_below {V V' : World} {B : Nat} {t : TypeId} {v : Value} (h : Boxed V B t v) (hb : Below V.heap.size V V') : Boxed V' B t v := (hb.block _ h.lt).trans h
theorem rct_other {V : World} {b B : Nat} {X Y W H : Int} (h : Rct V b X Y W H) (hb : b ≠ B) (o : Nat) (v : Value) : Rct (V.setCell ⟨B, o, none⟩ v) b X Y W H := (Below.heap_setCell V ⟨B, o, none⟩ v b hb).trans h

theorem points_call (w V : World) (X Y W H m n stop all : Int) (hM : Base w X Y W H m n stop V) (hall : sideI W = true → sideI H = true → all = W * H) (hno : (sideI W && sideI H) = false → all = 0) (h0 : 0 ≤ all) (h1 : all ≤ 1048576) :
    Calls Try.prog 21 #[.func (.func 14) #[] #[.pointer (some ⟨V.heap.size + 1 + 1, 0, none⟩), .pointer (some ⟨V.heap.size + 1, 0, none⟩), .pointer (some ⟨V.heap.size, 0, none⟩), .pointer (some ⟨w.heap.size, 0, none⟩), .pointer (some ⟨w.heap.size + 1 + 1, 0, none⟩)], .pointer (some ⟨V.heap.size + 1 + 1 + 1, 0, none⟩)]
      ((((V.alloc (.cells #[.int .i64 all] 3)).alloc (.cells #[.int .i64 0] 3)).alloc (.cells #[.bool true] 4)).alloc (.cells #[.int .i64 X, .int .i64 Y, .int .i64 W, .int .i64 H] 28)) fun e w' =>
      e = .returned (.tuple #[]) ∧ ∃ k : Nat, Pts w X Y W H m n stop V.heap.size all k w' ∧ ((k : Int) = all ∨ (k : Int) = stop ∧ (k : Int) ≤ all) := by
  have hlo := hM.lt
  have hst : Pts w X Y W H m n stop V.heap.size all 0 ((((V.alloc (.cells #[.int .i64 all] 3)).alloc (.cells #[.int .i64 0] 3)).alloc (.cells #[.bool true] 4)).alloc (.cells #[.int .i64 X, .int .i64 Y, .int .i64 W, .int .i64 H] 28)) := by
    have e1 : (V.alloc (.cells #[.int .i64 all] 3)).heap.size = V.heap.size + 1 := by simp
    have e2 : ((V.alloc (.cells #[.int .i64 all] 3)).alloc (.cells #[.int .i64 0] 3)).heap.size = V.heap.size + 1 + 1 := by simp
    have e3 : (((V.alloc (.cells #[.int .i64 all] 3)).alloc (.cells #[.int .i64 0] 3)).alloc (.cells #[.bool true] 4)).heap.size = V.heap.size + 1 + 1 + 1 := by simp
    have b1 := Boxed.new V 3 (.int .i64 all)
    have b2 := Boxed.new (V.alloc (.cells #[.int .i64 all] 3)) 3 (.int .i64 0)
    have b3 := Boxed.new ((V.alloc (.cells #[.int .i64 all] 3)).alloc (.cells #[.int .i64 0] 3)) 4 (.bool true)
    have b4 := heap_alloc_new (((V.alloc (.cells #[.int .i64 all] 3)).alloc (.cells #[.int .i64 0] 3)).alloc (.cells #[.bool true] 4)) (.cells #[.int .i64 X, .int .i64 Y, .int .i64 W, .int .i64 H] 28)
    rw [e1] at b2
    rw [e2] at b3
    rw [e3] at b4
    exact ⟨(((hM.alloc _).alloc _).alloc _).alloc _, ((b1.alloc _).alloc _).alloc _, (b2.alloc _).alloc _, b3.alloc _, b4⟩
  refine (points1_any X Y W H (V.heap.size + 1 + 1 + 1) 14 _ _ (fun k V1 => Pts w X Y W H m n stop V.heap.size all k V1 ∧ (k = 0 ∨ (k : Int) ≠ stop)) (fun V1 => ∃ k : Nat, Pts w X Y W H m n stop V.heap.size all k V1 ∧ (k : Int) = stop ∧ (k : Int) ≤ all) (fun _ _ => by kernel_rfl) (fun k V1 h => h.1.q) ?_ ⟨hst, .inl rfl⟩).mono ?_
  · rintro hsW hsH i j V1 ⟨hP, hk⟩ hi hj
    obtain ⟨w0, w1⟩ := sideI_yes hsW
    obtain ⟨g0, g1⟩ := sideI_yes hsH
    have hlt : ((j * W.toNat + i : Nat) : Int) < all := by
      have := idx_lt (m := W) (n := H) (i := i) (j := j) (by omega) hi hj
      have e := hall hsW hsH
      omega
    refine (stops1_any _ _ X Y W H ((j * W.toNat + i : Nat) : Int) all stop _ _ _ _ _ V1 hP.o hP.n hP.a hP.base.r hP.base.s w0 (by omega) hlt h1 (by rw [mod_at w0 hi, wrap_back (by omega) (by omega)]; simp) (by rw [div_at w0 hi, wrap_back (by omega) (by omega), wrap_small (by omega) (by omega)]; simp) ⟨by omega, by omega, by omega⟩).mono ?_
    rintro e V2 ⟨rfl, rfl⟩
    have hP2 : Pts w X Y W H m n stop V.heap.size all (j * W.toNat + i + 1) (((V1.setCell ⟨V.heap.size + 1 + 1, 0, none⟩ (.bool true)).setCell ⟨V.heap.size + 1, 0, none⟩ (.int .i64 (((j * W.toNat + i : Nat) : Int) + 1))).drewN 1) := by
      refine ⟨((hP.base.set (by omega) _).set (by omega) _).drew 1, (hP.a.other (by omega) _).other (by omega) _, ?_, (hP.o.set _).other (by omega) _, rct_other (rct_other hP.q (by omega) _ _) (by omega) _ _⟩
      have := (hP.n.other (B' := V.heap.size + 1 + 1) (by omega) (.bool true)).set (.int .i64 (((j * W.toNat + i : Nat) : Int) + 1))
      rw [Int.natCast_add]
      exact this
    by_cases hs : ((j * W.toNat + i : Nat) : Int) + 1 = stop
    · exact .inr ⟨retb_eq (by rw [hs]; simp), _, hP2, by omega, by omega⟩
    · exact .inl ⟨retb_eq (bne_iff_ne.2 hs), hP2, .inr (by omega)⟩
  · rintro e V2 ⟨rfl, h⟩
    refine ⟨rfl, ?_⟩
    rcases h with ⟨hs, hP, _⟩ | ⟨hs, hP, _⟩ | ⟨k, hP, h2, h3⟩
    · simp only [Bool.and_eq_true] at hs
      obtain ⟨w0, w1⟩ := sideI_yes hs.1
      obtain ⟨g0, g1⟩ := sideI_yes hs.2
      refine ⟨_, hP, .inl ?_⟩
      rw [hall hs.1 hs.2, Int.natCast_mul]
      congr 1 <;> omega
    · exact ⟨_, hP, .inl (by rw [hno hs]; rfl)⟩
    · exact ⟨k, hP, .inr ⟨h2, h3⟩⟩
end Go.Proofs.Ytekdhagmmflcnaa.splitStops
