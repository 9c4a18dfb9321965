/- Ranging over a function that hands over slices: the round may lean on what holds of an element when it comes. -/
import Derived.Test.YtbekkdlgibijdaaUnG
import Derived.RangeFuncNested
import Derived.RangeFuncBound
import Derived.RangeFuncCalls
import Derived.RangeFuncLeaves
import Derived.RangeFuncBox
import Derived.Shelf.RegionOpen
import Derived.OwnWalkIn
import Derived.TacticsInMore
import Derived.LoopNIn
import Derived.LoopIn
import Derived.Maps.AppendAt
namespace Go.Proofs.Ytbekkdlgibijdaa
open Go.RowKit

/-- What an iterator may turn: blocks of these types from N0 on, and new memory. -/
structure Itc (ts : List TypeId) (N0 : Nat) (A B : World) : Prop where
  below : Below N0 A B
  same : ∀ (k : Nat) (o : Obj), A.heap[k]? = some o → (∀ cs t fr, o = .cells cs t fr → t ∉ ts) → B.heap[k]? = some o
theorem Itc.refl (ts : List TypeId) (N0 : Nat) (A : World) : Itc ts N0 A A := ⟨Below.refl _ _, fun _ _ h _ => h⟩
theorem Itc.trans {ts : List TypeId} {N0 : Nat} {A B C : World} (h : Itc ts N0 A B) (k : Itc ts N0 B C) : Itc ts N0 A C := ⟨h.below.trans k.below, fun i o e ht => k.same i o (h.same i o e ht) ht⟩
theorem Itc.of {ts : List TypeId} {N0 : Nat} {A B : World} (h : Below A.heap.size A B) (hn : N0 ≤ A.heap.size) : Itc ts N0 A B := ⟨h.mono hn, fun i _ e _ => (h.block i (block_lt e)).trans e⟩
theorem Itc.set {ts : List TypeId} {N0 : Nat} {A : World} {B o : Nat} {cs : Array Value} {t : TypeId} {fr : Nat × Nat} (hb : A.heap[B]? = some (.cells cs t fr)) (ht : t ∈ ts) (hn : N0 ≤ B) (v : Value) : Itc ts N0 A (A.setCell ⟨B, o, none⟩ v) := ⟨(Below.refl N0 A).setCell hn v, fun i o' e h => by
  refine (heap_setCell_other _ _ _ _ (fun e2 => ?_)).trans e
  have e3 : i = B := e2
  subst e3
  rw [hb] at e; cases e; exact h _ _ _ rfl ht⟩
theorem Itc.grown {ts : List TypeId} {N0 : Nat} {a b : World} {r : Nat} {cs : Array Value} {t : TypeId} {fr : Nat × Nat} (h : a.grownBy b (some r)) (hr : a.heap[r]? = some (.cells cs t fr)) (ht : t ∈ ts) (hn : N0 ≤ r) (hs : N0 ≤ a.heap.size) : Itc ts N0 a b := ⟨below_of_grown h hs hn, fun i o' e h' => by
  refine (h.block i (block_lt e) (fun e2 => ?_)).trans e
  cases e2
  rw [hr] at e; cases e; exact h' _ _ _ rfl ht⟩

/-- An iterator's contract: of each element G holds in the world in which it is handed over; it is never stopped. -/
def SeqH {α : Type} (F : Fence) (n : Nat) (P : Program) (g : Nat) (lb : Array Value) (encs : α → Array Value) (G : α → World → Prop) (Kp : World → World → Prop) (Ic : World → World → Prop) (Fn : List α → World → Prop) (w : World) : Prop :=
  ∀ (l : Nat) (J : List α → World → Prop) (W : World), Below w.heap.size w W → (∀ s A B, J s A → Ic A B → J s B) →
    (∀ pre x W1, J pre W1 → G x W1 → pre.length < 4294967296 → YieldAt F (n - 1) P l (encs x) W1 fun e W' => e = .returned (.bool true) ∧ J (pre ++ [x]) W' ∧ Kp W1 W') →
    J [] W → CallsIn F n P g (#[.func (.yield l) #[] #[]] ++ lb) W fun e W' => (∃ v, e = .returned v) ∧ ∃ xs, Fn xs W' ∧ J xs W'

/-- How a round's body is left: it goes on. -/
def goesOn {α : Type} (n₀ : Nat) (Kp : World → World → Prop) (I : List α → World → Prop) (xs : List α) (W : World) : Exit → Act → World → Prop
  | .normal, _, W' => KeepsFrom n₀ W W' ∧ Kp W W' ∧ I xs W'
  | _, _, _ => False

variable {F : Fence} {n : Nat} {P : Program}
theorem range_h {α : Type} {g : Operand} {ps : Array Tmp} {assign body : Code} {Q : Exit → Act → World → Prop} {a : Act} {w : World}
    (hro : F.round = none) (h1 : 1 ≤ n) {gf : Nat} {lb : Array Value} (hg : a.eval g = .func (.func gf) #[] lb) (hFg : F.fn gf) (eg : ∀ args w, (callFunc gf args).run P w = .ok (.enter gf args) w)
    {encs : α → Array Value} {G : α → World → Prop} {Kp Ic : World → World → Prop} {Fn : List α → World → Prop} {w0 : World} (hseq : SeqH F (n - 1) P gf lb encs G Kp Ic Fn w0) (hIcs : ∀ A B, Ic A B → ∀ (k : Nat) (o : Obj), A.heap[k]? = some o → o.isCells = false → B.heap[k]? = some o)
    (hKt : ∀ {A B C : World}, Kp A B → Kp B C → Kp A C) (hKb : ∀ (W : World) (l : Nat) (o o' : Obj), w.heap.size ≤ l → W.heap[l]? = some o → o.isCells = false → o.isWalk = false → Kp W (W.putObj l o')) (hb0 : Below w0.heap.size w0 w) (hps : ∀ x, (encs x).size = ps.size)
    (I : List α → World → Prop) (hI : OwnFrom w.heap.size I) (hIi : ∀ s A B, I s A → Ic A B → I s B) (hFn : OwnFrom w.heap.size Fn) (h0 : I [] w) (Ax : α → Act → World → Prop) (hAx : ∀ x a', OwnFrom w.heap.size (fun (_ : Unit) W => Ax x a' W))
    (hassign : ∀ (l : Nat) (pre : List α) (x : α) (W : World) (K : Act → World → Prop), I pre W → G x W → (∀ a' W', KeepsFrom w.heap.size W W' → Kp W W' → I pre W' → Ax x a' W' → K a' W') →
      assign.wpIn (F.inRound l) (n - 1 - 1) P (Exit.then K (fun _ _ _ => False)) { tmps := (ps.zip (encs x)).foldl (fun t (p, v) => t.setIfInBounds p v) a.tmps, defers := [] } W)
    (hbody : ∀ (l : Nat) (pre : List α) (x : α) (a' : Act) (W : World), w.heap.size ≤ l → (∃ r, W.heap[l]? = some (.loop r)) → I pre W → Ax x a' W → pre.length < 4294967296 → body.wpIn (F.inRound l) (n - 1 - 1) P (goesOn w.heap.size Kp I (pre ++ [x]) W) a' W)
    (hdone : ∀ (D : Nat) (xs : List α) (W : World), w.heap.size ≤ D → Fn xs W → I xs W → W.heap[D]? = some (.deferred (some [])) → Q .normal { a with defers := { target := .collected D, args := #[] } :: a.defers } W) :
    (Code.rangeFunc g ps assign body).wpIn F n P Q a w := by
  refine wpIn_rangeFunc fun fn hfn => ?_
  rw [hro]
  let rec' : LoopState → Loop := fun st => { state := st, pending := none, fn, tmps := a.tmps, params := ps, assign, body, defers := w.heap.size }
  have esz : ((w.alloc (.deferred (some []))).alloc (.loop (rec' .ready))).heap.size = w.heap.size + 1 + 1 := by simp
  -- the two blocks of book-keeping
  have eL : ((w.alloc (.deferred (some []))).alloc (.loop (rec' .ready))).heap[w.heap.size + 1]? = some (.loop (rec' .ready)) := by
    have := World.alloc_heap_new (w.alloc (.deferred (some []))) (.loop (rec' .ready))
    rwa [World.size_alloc] at this
  have eD : ((w.alloc (.deferred (some []))).alloc (.loop (rec' .ready))).heap[w.heap.size]? = some (.deferred (some [])) :=
    (Below.heap_alloc _ _ _ (by simp)).trans (World.alloc_heap_new w _)
  refine ⟨w.heap.size + 1, [{ target := .collected w.heap.size, args := #[] }], _, { target := .fn (.func gf) lb, args := #[.func (.yield (w.heap.size + 1)) #[] #[]] }, (w.alloc (.deferred (some []))).alloc (.loop (rec' .ready)), gf,
    #[.func (.yield (w.heap.size + 1)) #[] #[]] ++ lb, (w.alloc (.deferred (some []))).alloc (.loop (rec' .ready)), run_enterLoop_outer _ _ _ _ _, ?_, ?_, ?_, fun _ => h1, ?_⟩
  · simp only [resolve, hg]
    simp [go_sem]
    rfl
  · intro f' hf'
    simp [Target.leads] at hf'
    subst hf'
    exact hFg
  · simp [invoke, go_sem, eg]
  refine (hseq (w.heap.size + 1) (fun pre W => (I pre W ∧ W.heap[w.heap.size + 1]? = some (.loop (rec' .ready))) ∧ W.heap[w.heap.size]? = some (.deferred (some []))) _
    (hb0.trans ((((Below.refl _ w).alloc (Nat.le_refl _) _).alloc (by simp) _).mono hb0.size)) ?_ ?_ ⟨⟨hI.alloc _ (hI.alloc _ h0), eL⟩, eD⟩).mono ?_
  · intro s A B hs hic
    exact ⟨⟨hIi s A B hs.1.1 hic, hIcs A B hic _ _ hs.1.2 rfl⟩, hIcs A B hic _ _ hs.2 rfl⟩
  · rintro pre x W ⟨⟨hi, hl⟩, hk⟩ hGx hlen
    refine ⟨fn, _, assign, body, run_yield (P := P) (args := encs x) hl (hps x), roundIn_of_wpIn hfn (hassign _ pre x W _ hi hGx ?_)⟩
    intro a' V hkf hkp hi2 hax
    have hl2 := hkf.same _ _ (by omega) hl rfl
    have hk2 := hkf.same _ _ (Nat.le_refl _) hk rfl
    have hlt : w.heap.size + 1 < V.heap.size := (Array.getElem?_eq_some_iff.1 hl2).1
    have hl3 : (V.putObj (w.heap.size + 1) (.loop (rec' .busy))).heap[w.heap.size + 1]? = some (.loop (rec' .busy)) := World.putObj_heap_same hlt
    have hk3 : (V.putObj (w.heap.size + 1) (.loop (rec' .busy))).heap[w.heap.size]? = some (.deferred (some [])) := (World.putObj_heap_other (by omega)).trans hk2
    have hkp3 : Kp V (V.putObj (w.heap.size + 1) (.loop (rec' .busy))) := hKb _ _ _ _ (by omega) hl2 rfl rfl
    refine ⟨_, run_beginRound hl2 rfl, wpIn_mono (hbody _ pre x a' _ (by omega) ⟨_, hl3⟩ (hI.putObj _ hi2 (by omega) hl2 rfl) ((hAx x a').putObj (s := ()) _ hax (by omega) hl2 rfl) hlen) ?_⟩
    intro e a3 U hp
    cases e with
    | normal =>
      obtain ⟨hkU, hkpU, hiU⟩ := hp
      have hlU := hkU.same _ _ (by omega) hl3 rfl
      have hkU2 := hkU.same _ _ (Nat.le_refl _) hk3 rfl
      exact ⟨_, _, run_endRound (P := P) none hlU, rfl, ⟨⟨hI.putObj _ hiU (by omega) hlU rfl, World.putObj_heap_same (Array.getElem?_eq_some_iff.1 hlU).1⟩, (World.putObj_heap_other (by omega)).trans hkU2⟩,
        hKt hkp (hKt (hKt hkp3 hkpU) (hKb _ _ _ _ (by omega) hlU rfl rfl))⟩
    | ret => exact hp.elim
    | exit id => exact hp.elim
    | goto t => exact hp.elim
    | panic ch => exact hp.elim
    | outgrown => exact hp.elim
  · rintro e W2 ⟨⟨v, rfl⟩, xs, hS, ⟨hi, hl⟩, hk⟩
    exact ⟨none, _, run_endLoop (P := P) hl (by simp [rec']), hdone _ xs _ (Nat.le_refl _) (hFn.putObj _ hS (by omega) hl rfl) (hI.putObj _ hi (by omega) hl rfl) ((World.putObj_heap_other (by omega)).trans hk)⟩
end Go.Proofs.Ytbekkdlgibijdaa
