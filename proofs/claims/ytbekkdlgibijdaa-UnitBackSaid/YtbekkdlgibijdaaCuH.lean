/- A new pen; a pen and a cursor through other calls; the document's Word. -/
import Derived.Test.YtbekkdlgibijdaaCuG
namespace Go.Proofs.Ytbekkdlgibijdaa
open Go.RowKit

theorem pen_new (w : World) : PenAt (w.alloc (.cells #[.slice none 0 0] 47)) w.heap.size [] := ⟨_, heap_alloc_new _ _, World.ownsRow_nil _ _ _ _⟩
theorem own_block5 {w : World} {b : Nat} {v : Value} {n : Nat} {xs : List Value} (h : w.ownsRow b 5 1 v n xs) : ∀ g, v.ownBlock = some g → ∃ cur, w.heap[g]? = some (.cells cur 5 (0, 0)) := by
  intro g hg
  rcases h.2 with ⟨rfl, _⟩ | ⟨g', cap, cur, rfl, _, hh, _⟩
  · cases hg
  · cases hg
    exact ⟨cur, hh⟩
theorem PenAt.grown {w w' : World} {B r : Nat} {l : List UInt8} (h : PenAt w B l) (hg : w.grownBy w' (some r)) (hr : ∃ cs t fr, w.heap[r]? = some (.cells cs t fr) ∧ t ≠ 5 ∧ t ≠ 47) : PenAt w' B l := by
  obtain ⟨v, hb, hrow⟩ := h
  obtain ⟨cs, t, fr, ht, h5, h47⟩ := hr
  refine ⟨v, (hg.block B (block_lt hb) (fun e => ?_)).trans hb, hrow.kept hg (.inr (fun e => ?_))⟩
  · cases e; rw [ht] at hb; cases hb; exact h47 rfl
  · obtain ⟨cur, hc⟩ := own_block5 hrow r e
    rw [ht] at hc; cases hc; exact h5 rfl
theorem PenAt.later {w w' : World} {B : Nat} {l : List UInt8} (h : PenAt w B l) (hb : Below w.heap.size w w') : PenAt w' B l := by
  obtain ⟨v, h1, h2⟩ := h
  exact ⟨v, block_later h1 hb, h2.kept (row := none) ⟨hb.os, hb.tape, hb.output, hb.size, fun k hk _ => hb.block k hk⟩ (by cases v.ownBlock <;> simp)⟩
theorem Cur.typed2 {w : World} {lo cb : Nat} {l : List UInt8} {n : Nat} (h : Cur w lo cb l n) : ∃ cs t fr, w.heap[cb]? = some (.cells cs t fr) ∧ t ≠ 5 ∧ t ≠ 47 := by
  obtain ⟨v, h1, _⟩ := h
  exact ⟨_, 87, _, h1, by decide, by decide⟩
theorem at_cur {w : World} {lo cb : Nat} {l : List UInt8} {n : Nat} (h : Cur w lo cb l n) : Calls Try.prog 20 #[.pointer (some ⟨cb, 0, none⟩)] w fun e w' => e = .returned (.int .i64 (n : Nat)) ∧ w = w' := by
  obtain ⟨v, h1, _⟩ := h
  exact at_any cb v n w h1
theorem left_cur {w : World} {lo cb : Nat} {l : List UInt8} {n : Nat} (h : Cur w lo cb l n) (hl : l.length ≤ 4294967296) : Calls Try.prog 19 #[.pointer (some ⟨cb, 0, none⟩)] w fun e w' => e = .returned (.int .i64 ((l.length - n : Nat) : Int)) ∧ ∃ k, w' = w.drewN k := by
  obtain ⟨v, h1, ⟨A, c, rfl, _, _⟩, h3⟩ := h
  rw [Int.ofNat_sub h3]
  exact left_any cb A c l.length n w h1 h3 hl
theorem below_of_grown {N r : Nat} {w w' : World} (hg : w.grownBy w' (some r)) (hN : N ≤ w.heap.size) (hr : N ≤ r) : Below N w w' := (Below.refl N w).grown hg hN (fun k e => by cases e; exact hr)

set_option maxRecDepth 4000 in
set_option maxHeartbeats 1000000 in
theorem refWord_any (m : Nat) (hm : m < 4294967296) (w : World) : Calls Try.prog 23 #[.int .i64 (m : Nat)] w fun e w' => e = .returned (.string ⟨(spellB m).toArray⟩) ∧ Below w.heap.size w w' := by
  have h0 : (0 : Int) ≤ (m : Nat) := by omega
  have h1 : ((m : Nat) : Int) < 4294967296 := by omega
  have e0 : (m : Int) / 16777216 = ((m / 16777216 % 256 : Nat) : Int) := by omega
  have e1 : (m : Int) / 65536 % 256 = ((m / 65536 % 256 : Nat) : Int) := by omega
  have e2 : (m : Int) / 256 % 256 = ((m / 256 % 256 : Nat) : Int) := by omega
  have e3 : (m : Int) % 256 = ((m % 256 : Nat) : Int) := by omega
  have hs : BytesAt (w.alloc (.cells #[.int .u8 ((m : Int) / 16777216), .int .u8 ((m : Int) / 65536 % 256), .int .u8 ((m : Int) / 256 % 256), .int .u8 ((m : Int) % 256)] 5)) 0 (.slice (some ⟨w.heap.size, 0, none⟩) 4 4) (spellB m) := by
    rw [e0, e1, e2, e3]
    refine ⟨_, 4, rfl, Nat.le_refl _, .inr ⟨w.heap.size, 0, _, _, rfl, Nat.zero_le _, heap_alloc_new _ _, fun j hj => ?_⟩⟩
    have hj : j < 4 := hj
    match j, hj with
    | 0, _ => simp [spellB, bv_ofNat]
    | 1, _ => simp [spellB, bv_ofNat]
    | 2, _ => simp [spellB, bv_ofNat]
    | 3, _ => simp [spellB, bv_ofNat]
  have hss := hs.str
  clear hs e0 e1 e2 e3
  go_enter Try.func23, Try.ntmps23
  go_wp2
  go_ret
  exact ⟨rfl, (Below.refl _ w).alloc (Nat.le_refl _) _⟩
end Go.Proofs.Ytbekkdlgibijdaa
