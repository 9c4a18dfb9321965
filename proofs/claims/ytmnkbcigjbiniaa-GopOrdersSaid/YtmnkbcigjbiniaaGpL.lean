/- Ranging over a function that hands over slices: the round may lean on what holds of an element when it comes. -/
import Derived.Test.YtmnkbcigjbiniaaGpS
import Derived.RangeFuncNested
import Derived.RangeFuncBound
import Derived.RangeFuncCalls
import Derived.RangeFuncLeaves
import Derived.RangeFuncBox
import Derived.Shelf.RegionOpen
import Derived.OwnWalkIn
import Derived.TacticsInMore
import Derived.LoopNIn
import Derived.LoopIn
import Derived.Maps.AppendAt
namespace Go.Proofs.Ytmnkbcigjbiniaa
open Go.RowKit

/-- An iterator's contract: of each element G holds in the world in which it is handed over; it is never stopped. -/
def SeqG {α : Type} (F : Fence) (n : Nat) (P : Program) (g : Nat) (lb : Array Value) (encs : α → Array Value) (G : α → World → Prop) (Kp : World → World → Prop) (S : List α → Prop) (N : Nat) (w : World) : Prop :=
  ∀ (l : Nat) (J : List α → World → Prop) (W : World), Below w.heap.size w W → AbidesFrom W.heap.size J →
    (∀ pre x W1, J pre W1 → G x W1 → pre.length < N → YieldAt F (n - 1) P l (encs x) W1 fun e W' => e = .returned (.bool true) ∧ J (pre ++ [x]) W' ∧ Kp W1 W') →
    J [] W → CallsIn F n P g (#[.func (.yield l) #[] #[]] ++ lb) W fun e W' => (∃ v, e = .returned v) ∧ ∃ xs, S xs ∧ J xs W'

/-- How a round's body is left: it goes on. -/
def goesOn {α : Type} (n₀ : Nat) (Kp : World → World → Prop) (I : List α → World → Prop) (xs : List α) (W : World) : Exit → Act → World → Prop
  | .normal, _, W' => KeepsFrom n₀ W W' ∧ Kp W W' ∧ I xs W'
  | _, _, _ => False

variable {F : Fence} {n : Nat} {P : Program}
theorem range_all {α : Type} {g : Operand} {ps : Array Tmp} {assign body : Code} {Q : Exit → Act → World → Prop} {a : Act} {w : World}
    (hro : F.round = none) (h1 : 1 ≤ n) {gf : Nat} {lb : Array Value} (hg : a.eval g = .func (.func gf) #[] lb) (hFg : F.fn gf) (eg : ∀ args w, (callFunc gf args).run P w = .ok (.enter gf args) w)
    {encs : α → Array Value} {G : α → World → Prop} {Kp : World → World → Prop} {S : List α → Prop} {N : Nat} {w0 : World} (hseq : SeqG F (n - 1) P gf lb encs G Kp S N w0)
    (hKt : ∀ {A B C : World}, Kp A B → Kp B C → Kp A C) (hKb : ∀ (W : World) (l : Nat) (o o' : Obj), w.heap.size ≤ l → W.heap[l]? = some o → o.isCells = false → o.isWalk = false → Kp W (W.putObj l o')) (hb0 : Below w0.heap.size w0 w) (hps : ∀ x, (encs x).size = ps.size)
    (I : List α → World → Prop) (hI : OwnFrom w.heap.size I) (h0 : I [] w) (Ax : α → Act → World → Prop) (hAx : ∀ x a', OwnFrom w.heap.size (fun (_ : Unit) W => Ax x a' W))
    (hassign : ∀ (l : Nat) (pre : List α) (x : α) (W : World) (K : Act → World → Prop), I pre W → G x W → (∀ a' W', KeepsFrom w.heap.size W W' → Kp W W' → I pre W' → Ax x a' W' → K a' W') →
      assign.wpIn (F.inRound l) (n - 1 - 1) P (Exit.then K (fun _ _ _ => False)) { tmps := (ps.zip (encs x)).foldl (fun t (p, v) => t.setIfInBounds p v) a.tmps, defers := [] } W)
    (hbody : ∀ (l : Nat) (pre : List α) (x : α) (a' : Act) (W : World), w.heap.size ≤ l → (∃ r, W.heap[l]? = some (.loop r)) → I pre W → Ax x a' W → pre.length < N → body.wpIn (F.inRound l) (n - 1 - 1) P (goesOn w.heap.size Kp I (pre ++ [x]) W) a' W)
    (hdone : ∀ (D : Nat) (xs : List α) (W : World), w.heap.size ≤ D → S xs → I xs W → W.heap[D]? = some (.deferred (some [])) → Q .normal { a with defers := { target := .collected D, args := #[] } :: a.defers } W) :
    (Code.rangeFunc g ps assign body).wpIn F n P Q a w := by
  refine wpIn_rangeFunc fun fn hfn => ?_
  rw [hro]
  let rec' : LoopState → Loop := fun st => { state := st, pending := none, fn, tmps := a.tmps, params := ps, assign, body, defers := w.heap.size }
  have esz : ((w.alloc (.deferred (some []))).alloc (.loop (rec' .ready))).heap.size = w.heap.size + 1 + 1 := by simp
  -- the two blocks of book-keeping
  have eL : ((w.alloc (.deferred (some []))).alloc (.loop (rec' .ready))).heap[w.heap.size + 1]? = some (.loop (rec' .ready)) := by
    have := World.alloc_heap_new (w.alloc (.deferred (some []))) (.loop (rec' .ready))
    rwa [World.size_alloc] at this
  have eD : ((w.alloc (.deferred (some []))).alloc (.loop (rec' .ready))).heap[w.heap.size]? = some (.deferred (some [])) :=
    (Below.heap_alloc _ _ _ (by simp)).trans (World.alloc_heap_new w _)
  refine ⟨w.heap.size + 1, [{ target := .collected w.heap.size, args := #[] }], _, { target := .fn (.func gf) lb, args := #[.func (.yield (w.heap.size + 1)) #[] #[]] }, (w.alloc (.deferred (some []))).alloc (.loop (rec' .ready)), gf,
    #[.func (.yield (w.heap.size + 1)) #[] #[]] ++ lb, (w.alloc (.deferred (some []))).alloc (.loop (rec' .ready)), run_enterLoop_outer _ _ _ _ _, ?_, ?_, ?_, fun _ => h1, ?_⟩
  · simp only [resolve, hg]
    simp [go_sem]
    rfl
  · intro f' hf'
    simp [Target.leads] at hf'
    subst hf'
    exact hFg
  · simp [invoke, go_sem, eg]
  refine (hseq (w.heap.size + 1) (fun pre W => (I pre W ∧ W.heap[w.heap.size + 1]? = some (.loop (rec' .ready))) ∧ W.heap[w.heap.size]? = some (.deferred (some []))) _
    (hb0.trans ((((Below.refl _ w).alloc (Nat.le_refl _) _).alloc (by simp) _).mono hb0.size)) ?_ ?_ ⟨⟨hI.alloc _ (hI.alloc _ h0), eL⟩, eD⟩).mono ?_
  · intro s A B row hs hgr hr
    have walk : ∀ r, row = some r → ∃ o : Obj, A.heap[r]? = some o ∧ o.isWalk = true := fun r e => (hr r e).2
    refine ⟨⟨hI s A B row hs.1.1 hgr fun r e => ?_, (grownBy_keeps hgr walk hs.1.2 rfl).trans hs.1.2⟩, (grownBy_keeps hgr walk hs.2 rfl).trans hs.2⟩
    obtain ⟨hB, o, ho, hw⟩ := hr r e
    exact ⟨by omega, o, ho, Obj.not_cells_of_walk hw⟩
  · rintro pre x W ⟨⟨hi, hl⟩, hk⟩ hGx hlen
    refine ⟨fn, _, assign, body, run_yield (P := P) (args := encs x) hl (hps x), roundIn_of_wpIn hfn (hassign _ pre x W _ hi hGx ?_)⟩
    intro a' V hkf hkp hi2 hax
    have hl2 := hkf.same _ _ (by omega) hl rfl
    have hk2 := hkf.same _ _ (Nat.le_refl _) hk rfl
    have hlt : w.heap.size + 1 < V.heap.size := (Array.getElem?_eq_some_iff.1 hl2).1
    have hl3 : (V.putObj (w.heap.size + 1) (.loop (rec' .busy))).heap[w.heap.size + 1]? = some (.loop (rec' .busy)) := World.putObj_heap_same hlt
    have hk3 : (V.putObj (w.heap.size + 1) (.loop (rec' .busy))).heap[w.heap.size]? = some (.deferred (some [])) := (World.putObj_heap_other (by omega)).trans hk2
    have hkp3 : Kp V (V.putObj (w.heap.size + 1) (.loop (rec' .busy))) := hKb _ _ _ _ (by omega) hl2 rfl rfl
    refine ⟨_, run_beginRound hl2 rfl, wpIn_mono (hbody _ pre x a' _ (by omega) ⟨_, hl3⟩ (hI.putObj _ hi2 (by omega) hl2 rfl) ((hAx x a').putObj (s := ()) _ hax (by omega) hl2 rfl) hlen) ?_⟩
    intro e a3 U hp
    cases e with
    | normal =>
      obtain ⟨hkU, hkpU, hiU⟩ := hp
      have hlU := hkU.same _ _ (by omega) hl3 rfl
      have hkU2 := hkU.same _ _ (Nat.le_refl _) hk3 rfl
      exact ⟨_, _, run_endRound (P := P) none hlU, rfl, ⟨⟨hI.putObj _ hiU (by omega) hlU rfl, World.putObj_heap_same (Array.getElem?_eq_some_iff.1 hlU).1⟩, (World.putObj_heap_other (by omega)).trans hkU2⟩,
        hKt hkp (hKt (hKt hkp3 hkpU) (hKb _ _ _ _ (by omega) hlU rfl rfl))⟩
    | ret => exact hp.elim
    | exit id => exact hp.elim
    | goto t => exact hp.elim
    | panic ch => exact hp.elim
    | outgrown => exact hp.elim
  · rintro e W2 ⟨⟨v, rfl⟩, xs, hS, ⟨hi, hl⟩, hk⟩
    exact ⟨none, _, run_endLoop (P := P) hl (by simp [rec']), hdone _ xs _ (Nat.le_refl _) hS (hI.putObj _ hi (by omega) hl rfl) ((World.putObj_heap_other (by omega)).trans hk)⟩
end Go.Proofs.Ytmnkbcigjbiniaa
