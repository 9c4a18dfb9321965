/- Contracts as CutReads asks for them. -/
import Derived.Test.YtbekkdlgibijdaaCuN
namespace Go.Proofs.Ytbekkdlgibijdaa
open Go.RowKit

def ORow (w : World) (ob : Nat) (k n : Int) : Prop := w.heap[ob]? = some (.cells #[.int .i64 k, .int .i64 n] 31 (0, 0))
theorem ORow.grown {w w' : World} {ob r : Nat} {k n : Int} (h : ORow w ob k n) (hg : w.grownBy w' (some r)) (hr : r ≠ ob) : ORow w' ob k n :=
  (hg.block ob (block_lt h) (by simpa using Ne.symm hr)).trans h
theorem ORow.later {w w' : World} {ob : Nat} {k n : Int} (h : ORow w ob k n) (hb : Below w.heap.size w w') : ORow w' ob k n := block_later h hb
theorem ocur_ne {w : World} {lo cb ob n : Nat} {l : List UInt8} {a b : Int} (h : Cur w lo cb l n) (k : ORow w ob a b) : cb ≠ ob := by
  rintro rfl
  obtain ⟨v, h1, _⟩ := h
  unfold CurBox at h1
  unfold ORow at k
  rw [h1] at k
  cases k
theorem below_as_grown {a b : World} {r : Nat} (h : Below a.heap.size a b) : a.grownBy b (some r) := ⟨h.os, h.tape, h.output, h.size, fun k hk _ => h.block k hk⟩
section
variable {w : World} {lo cb : Nat} {l : List UInt8} {at_ : Nat}
theorem at_cur2 (h : Cur w lo cb l at_) : Calls Try.prog 20 #[.pointer (some ⟨cb, 0, none⟩)] w fun e w' => e = .returned (.int .i64 (at_ : Nat)) ∧ w' = w :=
  (at_cur h).mono fun _ _ ⟨h1, h2⟩ => ⟨h1, h2.symm⟩
theorem word_yes2 (h : Cur w lo cb l at_) (hl : l.length ≤ 4294967296) (hm : at_ + 4 ≤ l.length) :
    Calls Try.prog 13 #[.pointer (some ⟨cb, 0, none⟩)] w fun e w' => e = .returned (.tuple #[.int .i64 (numB ((l.drop at_).take 4) : Nat), .bool true]) ∧ Cur w' lo cb l (at_ + 4) ∧ w.grownBy w' (some cb) := word_yes h hl hm
theorem byte_yes2 (h : Cur w lo cb l at_) (hl : l.length ≤ 4294967296) (hm : at_ + 1 ≤ l.length) :
    Calls Try.prog 14 #[.pointer (some ⟨cb, 0, none⟩)] w fun e w' => e = .returned (.tuple #[.int .i64 (numB ((l.drop at_).take 1) : Nat), .bool true]) ∧ Cur w' lo cb l (at_ + 1) ∧ w.grownBy w' (some cb) := byte_yes h hl hm
theorem word_not2 (h : Cur w lo cb l at_) (hl : l.length ≤ 4294967296) (hm : l.length < at_ + 4) :
    Calls Try.prog 13 #[.pointer (some ⟨cb, 0, none⟩)] w fun e w' => e = .returned (.tuple #[.int .i64 0, .bool false]) ∧ Below w.heap.size w w' :=
  (word_not h hl hm).mono fun _ _ ⟨h1, _, h2⟩ => ⟨h1, h2 ▸ below_drawn _ _ _⟩
theorem byte_not2 (h : Cur w lo cb l at_) (hl : l.length ≤ 4294967296) (hm : l.length < at_ + 1) :
    Calls Try.prog 14 #[.pointer (some ⟨cb, 0, none⟩)] w fun e w' => e = .returned (.tuple #[.int .i64 0, .bool false]) ∧ Below w.heap.size w w' :=
  (byte_not h hl hm).mono fun _ _ ⟨h1, _, h2⟩ => ⟨h1, h2 ▸ below_drawn _ _ _⟩
theorem num_yes {rb : Nat} (m : Nat) (h : RCur w rb (l.drop at_) at_) (hl : l.length ≤ 4294967296) (hm : at_ + m ≤ l.length) (h4 : m ≤ 4) :
    Calls Try.prog 15 #[.pointer (some ⟨rb, 0, none⟩), .int .i64 (m : Nat)] w fun e w' => e = .returned (.tuple #[.int .i64 (numB ((l.drop at_).take m) : Nat), .bool true]) ∧ RCur w' rb (l.drop (at_ + m)) (at_ + m) ∧ w.grownBy w' (some rb) := by
  have := refnum_yes m h (by simp; omega) (by simp; omega) h4
  rw [List.drop_drop] at this
  exact this
theorem rtake_yes {rb : Nat} (m : Nat) (h : RCur w rb (l.drop at_) at_) (hl : l.length ≤ 4294967296) (hm : at_ + m ≤ l.length) :
    Calls Try.prog 17 #[.pointer (some ⟨rb, 0, none⟩), .int .i64 (m : Nat)] w fun e w' => e = .returned (.tuple #[.string ⟨(nextB l at_ m).toArray⟩, .bool true]) ∧ RCur w' rb (l.drop (at_ + m)) (at_ + m) ∧ w.grownBy w' (some rb) := by
  have := reftake_yes m h (by simp; omega) (by simp; omega)
  rw [List.drop_drop] at this
  exact this
theorem take3 (m : Nat) (h : Cur w lo cb l at_) (hl : l.length ≤ 4294967296) (hm : at_ + m ≤ l.length) :
    Calls Try.prog 16 #[.pointer (some ⟨cb, 0, none⟩), .int .i64 (m : Nat)] w fun e w' => ∃ A c wm, e = .returned (.tuple #[.slice A m c, .bool true]) ∧ w'.ownsRow wm.heap.size 5 1 (.slice A m c) m ((nextB l at_ m).map bv) ∧ Cur wm lo cb l (at_ + m) ∧ w.grownBy wm (some cb) ∧ Below wm.heap.size wm w' := by
  refine (take_yes2 m h hl hm).mono ?_
  rintro e w' ⟨v, wm, rfl, hown, hC, hg, hb⟩
  obtain ⟨A, c, rfl, _, _⟩ := bytes_of_own hown
  rw [nextB_len hm] at hown ⊢
  exact ⟨A, c, wm, rfl, hown, hC, hg, hb⟩
theorem take_not3 (n : Int) (h : Cur w lo cb l at_) (hl : l.length ≤ 4294967296) (hn : n < 0 ∨ (l.length : Int) - at_ < n) :
    Calls Try.prog 16 #[.pointer (some ⟨cb, 0, none⟩), .int .i64 n] w fun e w' => ∃ A c, e = .returned (.tuple #[.slice A 0 c, .bool false]) ∧ BytesAt w' 0 (.slice A 0 c) [] ∧ Below w.heap.size w w' := by
  refine (take_not n h hl hn).mono ?_
  rintro e w' ⟨v, rfl, hown, hb⟩
  have hB := bytes_of_own (l := []) hown
  obtain ⟨A, c, rfl, _, _⟩ := hB
  exact ⟨A, c, rfl, (bytes_of_own (l := []) hown).mono (Nat.zero_le _), hb⟩
theorem sub_not2 (n : Int) (h : Cur w lo cb l at_) (hl : l.length ≤ 4294967296) (hn : n < 0 ∨ (l.length : Int) - at_ < n) :
    Calls Try.prog 18 #[.pointer (some ⟨cb, 0, none⟩), .int .i64 n] w fun e w' => e = .returned (.tuple #[.pointer none, .bool false]) ∧ Below w.heap.size w w' :=
  (sub_not n h hl hn).mono fun _ _ ⟨h1, _, h2⟩ => ⟨h1, h2 ▸ below_drawn _ _ _⟩
theorem left_full (h : Cur w lo cb l 0) (hl : l.length ≤ 4294967296) : Calls Try.prog 19 #[.pointer (some ⟨cb, 0, none⟩)] w fun e w' => e = .returned (.int .i64 (l.length : Nat)) ∧ Below w.heap.size w w' :=
  (left_cur h hl).mono fun _ _ ⟨h1, _, h2⟩ => ⟨h1, h2 ▸ below_drawn _ _ _⟩
theorem byte_nil2 (w : World) : Calls Try.prog 14 #[.pointer none] w fun e w' => e = .returned (.tuple #[.int .i64 0, .bool false]) ∧ Below w.heap.size w w' :=
  (byte_nil w).mono fun _ _ ⟨h1, _, h2⟩ => ⟨h1, h2 ▸ below_drawn _ _ _⟩
theorem left_nil2 (w : World) : Calls Try.prog 19 #[.pointer none] w fun e w' => e = .returned (.int .i64 0) ∧ Below w.heap.size w w' :=
  (left_nil w).mono fun _ _ ⟨h1, _, h2⟩ => ⟨h1, h2 ▸ below_drawn _ _ _⟩
theorem take_nil3 (w : World) : Calls Try.prog 16 #[.pointer none, .int .i64 0] w fun e w' => ∃ A c, e = .returned (.tuple #[.slice A 0 c, .bool true]) ∧ BytesAt w' 0 (.slice A 0 c) [] ∧ Below w.heap.size w w' := by
  refine (take_nil2 w).mono ?_
  rintro e w' ⟨v, rfl, hB, hb⟩
  have hB2 := hB
  obtain ⟨A, c, rfl, _, _⟩ := hB2
  exact ⟨A, c, rfl, hB, hb⟩
theorem next_all (l : List UInt8) : nextB l 0 l.length = l := by simp [nextB]
end
end Go.Proofs.Ytbekkdlgibijdaa
