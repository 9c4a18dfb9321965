/- Slices of bytes; the contract of slices.Clone at bytes. -/
import Derived.Test.YtbekkdlgibijdaaRows
import Derived.WalkKit
import Derived.WalkSpells
import Derived.WalkLawsBesides
import Derived.Deep.QuietTactic
import Derived.BigQuiet
import Derived.Lib.Hide
import Derived.Laws.BytesString
import Derived.Laws.IdiomStrings
import Derived.Laws.BytesArg
import Derived.OwnWalk
import Derived.Maps.AppendAt
namespace Go.Proofs.Ytbekkdlgibijdaa
open Go.RowKit

theorem ret_eq {k : IntKind} {a b : Int} (h : a = b) : Ending.returned (.int k a) = .returned (.int k b) := by rw [h]
theorem retb_eq {a b : Bool} (h : a = b) : Ending.returned (.bool a) = .returned (.bool b) := by rw [h]
theorem below2 {w a b : World} (h1 : Below w.heap.size w a) (h2 : Below a.heap.size a b) : Below w.heap.size w b := h1.trans (h2.mono h1.size)
theorem block_lt {w : World} {B : Nat} {o : Obj} (h : w.heap[B]? = some o) : B < w.heap.size := (Array.getElem?_eq_some_iff.1 h).1
theorem block_later {V V' : World} {B : Nat} {o : Obj} (h : V.heap[B]? = some o) (hb : Below V.heap.size V V') : V'.heap[B]? = some o := (hb.block _ (block_lt h)).trans h
theorem cell_later {V V' : World} {a : Addr} {u : Value} (h : V.cell? a = some u) (hb : Below V.heap.size V V') : V'.cell? a = some u := (hb.cell (block_lt_of_cell h)).trans h
theorem keep_alloc {w : World} {a : Addr} {v : Value} (h : w.cell? a = some v) (o : Obj) : (w.alloc o).cell? a = some v := cell_later h ((Below.refl _ w).alloc (Nat.le_refl _) o)
theorem info5 : (Try.prog.info? 5).map (fun i => (i.zero, i.size, i.bytes)) = some (some (.int .u8 0), 1, 1) := by kernel_rfl

/-- a byte as a cell -/
def bv (b : UInt8) : Value := .int .u8 (b.toNat : Nat)
/-- A slice that reads as these bytes, in a block from lo on. -/
def BytesAt (w : World) (lo : Nat) (v : Value) (l : List UInt8) : Prop :=
  ∃ A c, v = .slice A l.length c ∧ l.length ≤ c ∧ (l = [] ∨ ∃ g off cs fr, A = some ⟨g, off, none⟩ ∧ lo ≤ g ∧ w.heap[g]? = some (.cells cs 5 fr) ∧ ∀ j (hj : j < l.length), cs[off + j]? = some (bv l[j]))
theorem BytesAt.mono {w : World} {lo lo' : Nat} {v : Value} {l : List UInt8} (h : BytesAt w lo v l) (hl : lo' ≤ lo) : BytesAt w lo' v l := by
  obtain ⟨A, c, hv, hc, h⟩ := h
  refine ⟨A, c, hv, hc, h.imp id ?_⟩
  rintro ⟨g, off, cs, fr, hA, hg, hb, hx⟩
  exact ⟨g, off, cs, fr, hA, by omega, hb, hx⟩
theorem BytesAt.grown {w w' : World} {lo : Nat} {v : Value} {l : List UInt8} {row : Option Nat} (h : BytesAt w lo v l) (hg : w.grownBy w' row) (hr : ∀ r, row = some r → r < lo ∨ ∃ cs t fr, w.heap[r]? = some (.cells cs t fr) ∧ t ≠ 5) : BytesAt w' lo v l := by
  obtain ⟨A, c, hv, hc, h⟩ := h
  refine ⟨A, c, hv, hc, h.imp id ?_⟩
  rintro ⟨g, off, cs, fr, hA, hlo, hb, hx⟩
  refine ⟨g, off, cs, fr, hA, hlo, (hg.block g (block_lt hb) (fun e => ?_)).trans hb, hx⟩
  rcases hr g e.symm with h1 | ⟨cs', t, fr', h1, h2⟩
  · omega
  · rw [hb] at h1; cases h1; exact h2 rfl
theorem below_grown {a b : World} (h : Below a.heap.size a b) : a.grownBy b none := ⟨h.os, h.tape, h.output, h.size, fun k hk _ => h.block k hk⟩
theorem BytesAt.later {w w' : World} {lo : Nat} {v : Value} {l : List UInt8} (h : BytesAt w lo v l) (hb : Below w.heap.size w w') : BytesAt w' lo v l :=
  h.grown (below_grown hb) (fun r e => by cases e)
theorem bytes_of_own {w : World} {base : Nat} {v : Value} {l : List UInt8} (h : w.ownsRow base 5 1 v l.length (l.map bv)) : BytesAt w base v l := by
  rcases h.2 with ⟨hv, h0⟩ | ⟨g, cap, cur, hv, hg, hh, hn, _, _, ht⟩
  · exact ⟨none, 0, by rw [hv, h0], by omega, .inl (List.length_eq_zero_iff.1 h0)⟩
  · refine ⟨_, cap, hv, hn, .inr ⟨g, 0, cur, (0, 0), rfl, hg, hh, fun j hj => ?_⟩⟩
    have : (cur.toList.take (l.length * 1))[j]? = some (bv l[j]) := by rw [ht]; simp [hj]
    rw [List.getElem?_take_of_lt (by omega), Array.getElem?_toList] at this
    rw [Nat.zero_add]; exact this
theorem BytesAt.cell {w : World} {lo : Nat} {v : Value} {l : List UInt8} (h : BytesAt w lo v l) : ∃ A c, v = .slice A l.length c ∧ l.length ≤ c ∧ ∃ g off, (l = [] ∨ A = some ⟨g, off, none⟩) ∧ ∀ j (hj : j < l.length), w.cell? ⟨g, off + j, none⟩ = some (bv l[j]) := by
  obtain ⟨A, c, hv, hc, h | ⟨g, off, cs, fr, hA, _, hb, hx⟩⟩ := h
  · exact ⟨A, c, hv, hc, 0, 0, .inl h, fun j hj => by rw [h] at hj; simp at hj⟩
  · exact ⟨A, c, hv, hc, g, off, .inr hA, fun j hj => by rw [cell_of_row _ _ _ _ _ _ hb]; exact hx j hj⟩
/-- string(b) -/
theorem BytesAt.str {w : World} {lo : Nat} {v : Value} {l : List UInt8} (h : BytesAt w lo v l) : (convert 22 9 v).run Try.prog w = .ok (.string ⟨l.toArray⟩) w := by
  obtain ⟨A, c, rfl, hc, g, off, hA, hx⟩ := h.cell
  cases A with
  | none =>
    obtain rfl : l = [] := by
      rcases hA with h | h
      · exact h
      · cases h
    exact run_convert_bytes_nil w 22 5 Try.underlying22 Try.underlying5 _ _ 9 Try.underlying9
  | some ad =>
    refine run_convert_bytes_back w 22 9 5 ad c l Try.underlying22 Try.underlying5 Try.underlying9 (fun j hj => ?_)
    rcases hA with h | h
    · rw [h] at hj; simp at hj
    · cases h
      have : (⟨g, off, none⟩ : Addr).add j = ⟨g, off + j, none⟩ := by unfold Addr.add; split <;> simp_all
      rw [this]
      exact hx j hj
theorem bv_one (l : List UInt8) : ∀ u ∈ l.map bv, u.oneCell' = true := by
  intro u hu
  obtain ⟨b, _, rfl⟩ := List.mem_map.1 hu
  rfl
theorem news_at {w : World} {A : Option Addr} {g off : Nat} {l : List UInt8} {ad : Addr} (hA : l = [] ∨ A = some ⟨g, off, none⟩) (e : A = some ad) (hx : ∀ j (hj : j < l.length), w.cell? ⟨g, off + j, none⟩ = some (bv l[j])) :
    ∀ j u, (l.map bv)[j]? = some u → w.cell? (ad.add j) = some u := by
  intro j u hu
  have hj : j < l.length := by
    have := (List.getElem?_eq_some_iff.1 hu).1
    simpa using this
  rcases hA with h | h
  · rw [h] at hj; simp at hj
  · rw [e] at h
    cases h
    have e2 : (⟨g, off, none⟩ : Addr).add j = ⟨g, off + j, none⟩ := by unfold Addr.add; split <;> simp_all
    rw [e2, hx j hj]
    simpa [hj] using hu
theorem own_empty (w : World) (base : Nat) (hb : base ≤ w.heap.size) : (w.alloc (.cells #[] 5)).ownsRow base 5 1 (.slice (some ⟨w.heap.size, 0, none⟩) 0 0) 0 [] :=
  ⟨rfl, .inr ⟨w.heap.size, 0, #[], rfl, hb, heap_alloc_new w _, Nat.le_refl _, by unfold maxLen; omega, rfl, rfl⟩⟩

set_option maxHeartbeats 1000000 in
theorem clone_any (v : Value) (lo : Nat) (l : List UInt8) (w : World) (h : BytesAt w lo v l) (hl : l.length ≤ 4294967296) :
    Calls Try.prog 43 #[v] w fun e w' => ∃ v', e = .returned v' ∧ w'.ownsRow w.heap.size 5 1 v' l.length (l.map bv) ∧ Below w.heap.size w w' := by
  obtain ⟨i0, hi, hz0, hz1, hz2⟩ := info_parts info5
  obtain ⟨A, c, rfl, hc, g, off, hA, hx⟩ := h.cell
  have heq := fun w' => Lib.run_eql_slice_nil (P := Try.prog) w' 22 5 A l.length c 0 0 Try.underlying22
  cases A with
  | none =>
    obtain rfl : l = [] := by
      rcases hA with h | h
      · exact h
      · cases h
    clear h hl hc hx hA
    simp only [List.length_nil, Option.isNone_none] at heq ⊢
    go_enter Try.func43, Try.ntmps43
    go_wp2
    go_ret
    exact ⟨_, rfl, World.ownsRow_nil _ _ _ _, Below.refl _ _⟩
  | some ad =>
    have hn := news_at hA rfl (w := w.alloc (.cells #[] 5)) (fun j hj => keep_alloc (hx j hj) _)
    have HN := Lib.hid hn
    clear hn hx h hA
    go_enter Try.func43, Try.ntmps43
    go_wp2_with (at_builtin; refine wpList_append_own _ rfl _ _ 22 rfl w.heap.size 5 i0 (.int .u8 0) 1 1 Try.underlying22 hi hz0 hz1 hz2 rfl (by decide) _ 0 [] rfl (own_empty w _ (Nat.le_refl _)) ad l.length c (l.map bv) rfl (by simp) HN.out (bv_one l) (by unfold maxLen; omega) (by omega) (by simp) ?_; intro v' w1 hown hgrow _)
    go_ret
    refine ⟨_, rfl, by simpa using hown, (((Below.refl _ w).alloc (Nat.le_refl _) _).grown hgrow (by simp) (fun k hk => ?_))⟩
    cases hk
    exact Nat.le_refl _
end Go.Proofs.Ytbekkdlgibijdaa
