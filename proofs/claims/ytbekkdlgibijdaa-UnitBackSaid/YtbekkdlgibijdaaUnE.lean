/- A walker's next unit. -/
import Derived.Test.YtbekkdlgibijdaaUnD
namespace Go.Proofs.Ytbekkdlgibijdaa
open Go.RowKit

abbrev z66 : Array Value := #[.int .i64 0, .slice none 0 0]
/-- Blocks of types other than these stay. -/
def Kept (ts : List TypeId) (w w' : World) : Prop := ∀ (k : Nat) (cs : Array Value) (t : TypeId) (fr : Nat × Nat), w.heap[k]? = some (.cells cs t fr) → t ∉ ts → w'.heap[k]? = some (.cells cs t fr)
theorem Kept.refl (ts : List TypeId) (w : World) : Kept ts w w := fun _ _ _ _ h _ => h
theorem Kept.trans {ts : List TypeId} {a b c : World} (h : Kept ts a b) (k : Kept ts b c) : Kept ts a c := fun i cs t fr e ht => k i cs t fr (h i cs t fr e ht) ht
theorem kept_below {ts : List TypeId} {a b : World} (h : Below a.heap.size a b) : Kept ts a b := fun i _ _ _ e _ => (h.block i (block_lt e)).trans e
theorem kept_set {ts : List TypeId} {w : World} {B o : Nat} {cs : Array Value} {t : TypeId} {fr : Nat × Nat} (hb : w.heap[B]? = some (.cells cs t fr)) (ht : t ∈ ts) (v : Value) : Kept ts w (w.setCell ⟨B, o, none⟩ v) := fun i cs' t' fr' e h => by
  refine (heap_setCell_other _ _ _ _ (fun e2 => ?_)).trans e
  have e3 : i = B := e2
  subst e3
  rw [hb] at e; cases e; exact h ht
theorem kept_grown {ts : List TypeId} {a b : World} {r : Nat} {cs : Array Value} {t : TypeId} {fr : Nat × Nat} (h : a.grownBy b (some r)) (hr : a.heap[r]? = some (.cells cs t fr)) (ht : t ∈ ts) : Kept ts a b := fun i cs' t' fr' e h' => by
  refine (h.block i (block_lt e) (fun e2 => ?_)).trans e
  cases e2
  rw [hr] at e; cases e; exact h' ht
theorem Kept.more {ts us : List TypeId} {a b : World} (h : Kept ts a b) (hs : ∀ t ∈ ts, t ∈ us) : Kept us a b := fun i cs t fr e ht => h i cs t fr e (fun h2 => ht (hs t h2))
/-- .. whatever they are -/
def KeptO (ts : List TypeId) (w w' : World) : Prop := ∀ (k : Nat) (o : Obj), w.heap[k]? = some o → (∀ cs t fr, o = .cells cs t fr → t ∉ ts) → w'.heap[k]? = some o
theorem KeptO.cl {ts : List TypeId} {w w' : World} (h : KeptO ts w w') : Kept ts w w' := fun k cs t fr e ht => h k _ e (fun _ _ _ e2 => by cases e2; exact ht)
theorem KeptO.trans {ts : List TypeId} {a b c : World} (h : KeptO ts a b) (k : KeptO ts b c) : KeptO ts a c := fun i o e ht => k i o (h i o e ht) ht
theorem keptO_below {ts : List TypeId} {a b : World} (h : Below a.heap.size a b) : KeptO ts a b := fun i _ e _ => (h.block i (block_lt e)).trans e
theorem keptO_set {ts : List TypeId} {w : World} {B o : Nat} {cs : Array Value} {t : TypeId} {fr : Nat × Nat} (hb : w.heap[B]? = some (.cells cs t fr)) (ht : t ∈ ts) (v : Value) : KeptO ts w (w.setCell ⟨B, o, none⟩ v) := fun i o' e h => by
  refine (heap_setCell_other _ _ _ _ (fun e2 => ?_)).trans e
  have e3 : i = B := e2
  subst e3
  rw [hb] at e; cases e; exact h _ _ _ rfl ht
theorem keptO_grown {ts : List TypeId} {a b : World} {r : Nat} {cs : Array Value} {t : TypeId} {fr : Nat × Nat} (h : a.grownBy b (some r)) (hr : a.heap[r]? = some (.cells cs t fr)) (ht : t ∈ ts) : KeptO ts a b := fun i o e h' => by
  refine (h.block i (block_lt e) (fun e2 => ?_)).trans e
  cases e2
  rw [hr] at e; cases e; exact h' _ _ _ rfl ht
theorem BytesAt.kept {ts : List TypeId} {w w' : World} {lo : Nat} {v : Value} {l : List UInt8} (h : BytesAt w lo v l) (hk : Kept ts w w') (ht : (5 : TypeId) ∉ ts) : BytesAt w' lo v l := by
  obtain ⟨A, c, hv, hc, h⟩ := h
  refine ⟨A, c, hv, hc, h.imp id ?_⟩
  rintro ⟨g, off, cs, fr, hA, hlo, hb, hx⟩
  exact ⟨g, off, cs, fr, hA, hlo, hk _ _ _ _ hb ht, hx⟩
theorem BytesAt.piece {w : World} {lo g off c n : Nat} {l : List UInt8} (h : BytesAt w lo (.slice (some ⟨g, off, none⟩) n c) l) (i m : Nat) (hi : i + m ≤ l.length) : BytesAt w lo (.slice (some ⟨g, off + i, none⟩) m (c - i)) (nextB l i m) := by
  obtain ⟨A, c', hv, hc, h⟩ := h
  injection hv with h1 h2 h3
  subst h3
  have hl : (nextB l i m).length = m := nextB_len hi
  refine ⟨_, _, by rw [hl], by rw [hl]; omega, ?_⟩
  rcases h with h | ⟨g', off', cs, fr, hA, hlo, hb, hx⟩
  · exact .inl (by rw [h]; simp [nextB])
  · rw [← h1] at hA
    cases hA
    refine .inr ⟨_, _, cs, fr, rfl, hlo, hb, fun j hj => ?_⟩
    rw [hl] at hj
    rw [Nat.add_assoc, hx (i + j) (by omega)]
    simp [nextB]

theorem next35_nil (w : World) : Calls Try.prog 35 #[.pointer none] w fun e w' => e = .returned (.tuple #[.agg z66, .int .i64 30]) ∧ Below w.heap.size w w' := by
  have hB := (Below.refl w.heap.size w).alloc (Nat.le_refl _) (.cells z66 66)
  have HB := Lib.hid hB
  clear hB
  go_enter Try.func35, Try.ntmps35
  go_wp2_with fail
  exact bodyPost_ret (results_cell1 Try.results35 _ _ w.heap.size 66 z66 _ _ rfl (heap_alloc_new w _) Try.underlying66 rfl info66) rfl ⟨rfl, HB.out⟩
theorem all2 (a : Int) (A : Option Addr) (n c : Nat) : (#[Value.int .i64 a, .slice A n c] : Array Value).all (·.oneCell') = true := by simp [Value.oneCell']
/-- a look that tells an error -/
theorem next35_err {w : World} {wb : Nat} {E : Int} (hE : E ≠ 0)
    (hlook : ∀ V, Below w.heap.size w V → Calls Try.prog 49 #[.pointer (some ⟨wb, 0, none⟩)] V fun e w' => e = .returned (.tuple #[.agg #[.int .i64 0, .int .i64 0, .int .i64 0], .int .i64 0, .int .i64 E]) ∧ Below V.heap.size V w') :
    Calls Try.prog 35 #[.pointer (some ⟨wb, 0, none⟩)] w fun e w' => e = .returned (.tuple #[.agg z66, .int .i64 E]) ∧ Below w.heap.size w w' := by
  have hB := (Below.refl w.heap.size w).alloc (Nat.le_refl _) (.cells z66 66)
  have hL := hlook _ hB
  have hR := heap_alloc_new w (.cells z66 66)
  have hb0 : (E != 0) = true := by simp [hE]
  have HB := Lib.hid hB
  have HL := Lib.hid hL
  have HR := Lib.hid hR
  clear hE hlook hB hL hR
  go_enter Try.func35, Try.ntmps35
  go_wp2_with fail
  refine HL.out.mono ?_
  rintro e W1 ⟨rfl, hb1⟩
  have HR1 := Lib.hid (block_later (block_later HR.out hb1) ((Below.refl _ W1).alloc (Nat.le_refl _) (.cells z95 95)))
  have HB1 := Lib.hid ((HB.out.trans (hb1.mono (by simp))).alloc (by have := hb1.size; simp at this; omega) (.cells z95 95))
  clear hb1
  go_wp2_with (refine wpList_store_row rfl 66 _ _ rfl _ z66 rfl rfl _ _ HR1.out info66 rfl (all2 _ _ _ _) ?_)
  exact bodyPost_ret (results_cell1 Try.results35 _ _ w.heap.size 66 z66 _ _ rfl (setRow_heap _ _ _ _ _ _ HR1.out) Try.underlying66 rfl info66) rfl ⟨rfl, HB1.out.trans (below_setRow _ _ _ (Nat.le_refl _))⟩
end Go.Proofs.Ytbekkdlgibijdaa
