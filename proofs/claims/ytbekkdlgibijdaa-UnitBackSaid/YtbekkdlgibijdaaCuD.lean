/- Contracts of a cursor's Byte, Word, Take, Sub, and of New. -/
import Derived.Test.YtbekkdlgibijdaaCuC
namespace Go.Proofs.Ytbekkdlgibijdaa
open Go.RowKit

theorem grown_set (w : World) (B o : Nat) (v : Value) : w.grownBy (w.setCell ⟨B, o, none⟩ v) (some B) :=
  ⟨rfl, rfl, rfl, by simp, fun k _ hk => heap_setCell_other _ _ _ _ (fun e => hk (by rw [e]))⟩
theorem grown_drewN {w w' : World} {row : Option Nat} (h : w.grownBy w' row) (k : Nat) : w.grownBy (w'.drewN k) row := ⟨h.os, h.tape, h.output, h.size, h.block⟩
theorem grown_refl (w : World) (row : Option Nat) : w.grownBy w row := ⟨rfl, rfl, rfl, Nat.le_refl _, fun _ _ _ => rfl⟩
theorem grown_trans {a b c : World} {row : Option Nat} (h : a.grownBy b row) (k : b.grownBy c row) : a.grownBy c row :=
  ⟨k.os.trans h.os, k.tape.trans h.tape, k.output.trans h.output, Nat.le_trans h.size k.size, fun i hi hr => (k.block i (Nat.lt_of_lt_of_le hi h.size) hr).trans (h.block i hi hr)⟩
theorem grown_below {a b c : World} {row : Option Nat} (h : a.grownBy b row) (k : Below b.heap.size b c) : a.grownBy c row :=
  ⟨k.os.trans h.os, k.tape.trans h.tape, k.output.trans h.output, Nat.le_trans h.size k.size, fun i hi hr => (k.block i (Nat.lt_of_lt_of_le hi h.size)).trans (h.block i hi hr)⟩
/-- bytes n from where the cursor stands -/
def nextB (l : List UInt8) (at_ m : Nat) : List UInt8 := (l.drop at_).take m
theorem nextB_len {l : List UInt8} {at_ m : Nat} (h : at_ + m ≤ l.length) : (nextB l at_ m).length = m := by simp [nextB]; omega
theorem Cur.later {w w' : World} {lo cb : Nat} {l : List UInt8} {n : Nat} (h : Cur w lo cb l n) (hb : Below w.heap.size w w') : Cur w' lo cb l n := by
  obtain ⟨v, h1, h2, h3⟩ := h
  exact ⟨v, block_later h1 hb, h2.later hb, h3⟩
theorem Cur.grown {w w' : World} {lo cb : Nat} {l : List UInt8} {n r : Nat} (h : Cur w lo cb l n) (hg : w.grownBy w' (some r)) (hr : r ≠ cb) (hlo : r < lo ∨ ∃ cs t fr, w.heap[r]? = some (.cells cs t fr) ∧ t ≠ 5) : Cur w' lo cb l n := by
  obtain ⟨v, h1, h2, h3⟩ := h
  exact ⟨v, (hg.block cb (block_lt h1) (by simpa using Ne.symm hr)).trans h1, h2.grown hg (fun k e => by cases e; exact hlo), h3⟩
theorem Cur.lt {w : World} {lo cb : Nat} {l : List UInt8} {n : Nat} (h : Cur w lo cb l n) : cb < w.heap.size := by
  obtain ⟨v, h1, _⟩ := h
  exact block_lt h1
theorem Cur.typed {w : World} {lo cb : Nat} {l : List UInt8} {n : Nat} (h : Cur w lo cb l n) : ∃ cs t fr, w.heap[cb]? = some (.cells cs t fr) ∧ t ≠ 5 := by
  obtain ⟨v, h1, _⟩ := h
  exact ⟨_, 87, _, h1, by decide⟩

theorem next_yes {w : World} {lo cb : Nat} {l : List UInt8} {at_ m : Nat} (h : Cur w lo cb l at_) (hl : l.length ≤ 4294967296) (hm : at_ + m ≤ l.length) :
    Calls Try.prog 44 #[.pointer (some ⟨cb, 0, none⟩), .int .i64 (m : Nat)] w fun e w' => ∃ v, e = .returned (.tuple #[v, .bool true]) ∧ BytesAt w' lo v (nextB l at_ m) ∧ Cur w' lo cb l (at_ + m) ∧ w.grownBy w' (some cb) := by
  obtain ⟨v, hb, hv, hat⟩ := h
  have hv' := hv
  obtain ⟨A, c, rfl, hc, hx⟩ := hv
  rcases Nat.eq_zero_or_pos m with h0 | h0
  · subst h0
    refine (next_zero hb hat hl).mono ?_
    rintro e w' ⟨rfl, k, rfl⟩
    exact ⟨_, rfl, ⟨none, 0, by simp [nextB], by simp [nextB], .inl (by simp [nextB])⟩, ⟨_, hb, hv', hat⟩, grown_drewN (grown_refl _ _) k⟩
  · rcases hx with rfl | ⟨g, off, cs, fr, rfl, hlo, hh, hx⟩
    · simp at hm; omega
    · refine (next_some hb hc h0 hm hl).mono ?_
      rintro e w' ⟨rfl, k, rfl⟩
      have hne : g ≠ cb := fun e => by subst e; unfold CurBox at hb; rw [hh] at hb; cases hb
      have hgr := grown_set w cb 1 (.int .i64 ((at_ + m : Nat) : Int))
      have hh2 : (w.setCell ⟨cb, 1, none⟩ (.int .i64 ((at_ + m : Nat) : Int))).heap[g]? = some (.cells cs 5 fr) := (hgr.block g (block_lt hh) (by simpa using hne)).trans hh
      have hlen := nextB_len hm
      refine ⟨_, rfl, ⟨_, m, by rw [hlen], by omega, .inr ⟨g, off + at_, cs, fr, rfl, hlo, hh2, fun j hj => ?_⟩⟩, ⟨_, heap_setCell_same _ _ 1 _ _ _ hb, ⟨_, c, rfl, hc, .inr ⟨g, off, cs, fr, rfl, hlo, hh2, hx⟩⟩, hm⟩, grown_drewN hgr k⟩
      rw [hlen] at hj
      rw [Nat.add_assoc, hx (at_ + j) (by omega)]
      simp [nextB]
theorem next_not {w : World} {lo cb : Nat} {l : List UInt8} {at_ : Nat} {n : Int} (h : Cur w lo cb l at_) (hl : l.length ≤ 4294967296) (hn : n < 0 ∨ (l.length : Int) - at_ < n) :
    Calls Try.prog 44 #[.pointer (some ⟨cb, 0, none⟩), .int .i64 n] w fun e w' => e = .returned (.tuple #[.slice none 0 0, .bool false]) ∧ ∃ k, w' = w.drewN k := by
  obtain ⟨v, hb, ⟨A, c, rfl, hc, hx⟩, hat⟩ := h
  exact next_no hb hat hl hn
theorem bytes_nil (w : World) (lo : Nat) : BytesAt w lo (.slice none 0 0) [] := ⟨none, 0, rfl, Nat.le_refl _, .inl rfl⟩

section
variable {w : World} {lo cb : Nat} {l : List UInt8} {at_ : Nat}
theorem word_yes (h : Cur w lo cb l at_) (hl : l.length ≤ 4294967296) (hm : at_ + 4 ≤ l.length) :
    Calls Try.prog 13 #[.pointer (some ⟨cb, 0, none⟩)] w fun e w' => e = .returned (.tuple #[.int .i64 (numB (nextB l at_ 4) : Nat), .bool true]) ∧ Cur w' lo cb l (at_ + 4) ∧ w.grownBy w' (some cb) := by
  have hN := next_yes (m := 4) h hl hm
  have HN := Lib.hid hN
  have hlen := nextB_len hm
  have HL := Lib.hid hlen
  clear hN h hl hm hlen
  go_enter Try.func13, Try.ntmps13
  go_wp2_with (first
    | (go_at_call 44; refine HN.out.mono ?_; rintro e w1 ⟨v, rfl, hb, hC, hG⟩; have HB := Lib.hid hb; have HC := Lib.hid hC; have HG := Lib.hid hG; clear hb hC hG)
    | (go_at_call 45; refine (number_any _ lo _ _ HB.out (by rw [HL.out]; omega)).mono ?_; rintro e w2 ⟨rfl, rfl⟩))
  go_ret2
  exact ⟨rfl, HC.out, HG.out⟩
theorem word_not (h : Cur w lo cb l at_) (hl : l.length ≤ 4294967296) (hm : l.length < at_ + 4) :
    Calls Try.prog 13 #[.pointer (some ⟨cb, 0, none⟩)] w fun e w' => e = .returned (.tuple #[.int .i64 0, .bool false]) ∧ ∃ k, w' = w.drewN k := by
  have hN := next_not (n := 4) h hl (by omega)
  have HN := Lib.hid hN
  clear hN h hl hm
  go_enter Try.func13, Try.ntmps13
  go_wp2_with (first
    | (go_at_call 44; refine HN.out.mono ?_; rintro e w1 ⟨rfl, k, rfl⟩)
    | (go_at_call 45; refine (number_any _ 0 [] _ (bytes_nil _ _) (by simp)).mono ?_; rintro e w2 ⟨rfl, rfl⟩))
  go_ret2
  exact ⟨rfl, _, rfl⟩
theorem byte_yes (h : Cur w lo cb l at_) (hl : l.length ≤ 4294967296) (hm : at_ + 1 ≤ l.length) :
    Calls Try.prog 14 #[.pointer (some ⟨cb, 0, none⟩)] w fun e w' => e = .returned (.tuple #[.int .i64 (numB (nextB l at_ 1) : Nat), .bool true]) ∧ Cur w' lo cb l (at_ + 1) ∧ w.grownBy w' (some cb) := by
  have hN := next_yes (m := 1) h hl hm
  have HN := Lib.hid hN
  have hlen := nextB_len hm
  have HL := Lib.hid hlen
  clear hN h hl hm hlen
  go_enter Try.func14, Try.ntmps14
  go_wp2_with (first
    | (go_at_call 44; refine HN.out.mono ?_; rintro e w1 ⟨v, rfl, hb, hC, hG⟩; have HB := Lib.hid hb; have HC := Lib.hid hC; have HG := Lib.hid hG; clear hb hC hG)
    | (go_at_call 45; refine (number_any _ lo _ _ HB.out (by rw [HL.out]; omega)).mono ?_; rintro e w2 ⟨rfl, rfl⟩))
  go_ret2
  exact ⟨rfl, HC.out, HG.out⟩
theorem byte_not (h : Cur w lo cb l at_) (hl : l.length ≤ 4294967296) (hm : l.length < at_ + 1) :
    Calls Try.prog 14 #[.pointer (some ⟨cb, 0, none⟩)] w fun e w' => e = .returned (.tuple #[.int .i64 0, .bool false]) ∧ ∃ k, w' = w.drewN k := by
  have hN := next_not (n := 1) h hl (by omega)
  have HN := Lib.hid hN
  clear hN h hl hm
  go_enter Try.func14, Try.ntmps14
  go_wp2_with (first
    | (go_at_call 44; refine HN.out.mono ?_; rintro e w1 ⟨rfl, k, rfl⟩)
    | (go_at_call 45; refine (number_any _ 0 [] _ (bytes_nil _ _) (by simp)).mono ?_; rintro e w2 ⟨rfl, rfl⟩))
  go_ret2
  exact ⟨rfl, _, rfl⟩
theorem word_nil (w : World) : Calls Try.prog 13 #[.pointer none] w fun e w' => e = .returned (.tuple #[.int .i64 0, .bool false]) ∧ ∃ k, w' = w.drewN k := by
  go_enter Try.func13, Try.ntmps13
  go_wp2_with (first
    | (go_at_call 44; refine (next_nil 4 _).mono ?_; rintro e w1 ⟨rfl, k, rfl⟩)
    | (go_at_call 45; refine (number_any _ 0 [] _ (bytes_nil _ _) (by simp)).mono ?_; rintro e w2 ⟨rfl, rfl⟩))
  go_ret2
  exact ⟨rfl, _, rfl⟩
end
end Go.Proofs.Ytbekkdlgibijdaa
