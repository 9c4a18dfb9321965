/- The units of any bytes, plainly; what a walker's iterator leans on. -/
import Derived.Test.YtbekkdlgibijdaaUnH
namespace Go.Proofs.Ytbekkdlgibijdaa
open Go.RowKit

/-! The units of bytes: where the k-th begins, behind which size. -/
def posU (b : List UInt8) : Nat → Nat × Int
  | 0 => (0, 0)
  | k + 1 => ((posU b k).1 + unitN (nextB b (posU b k).1 13), (unitN (nextB b (posU b k).1 13) : Nat))
def headU (b : List UInt8) (k : Nat) : List UInt8 := nextB b (posU b k).1 13
def elU (b : List UInt8) (k : Nat) : Nat × List UInt8 := (hCode (headU b k), nextB b ((posU b k).1 + 13) (unitN (headU b k) - 13))
def errU (b : List UInt8) (k : Nat) : Int := oneE b (posU b k).1 (posU b k).2
def goesU (b : List UInt8) (k : Nat) : Prop := errU b k = 0 ∧ hCode (headU b k) ≠ 16
/-- where a walker stands behind the last unit -/
def endU (b : List UInt8) (m : Nat) : Nat := if errU b m = 0 then (posU b m).1 + unitN (headU b m) else (posU b m).1
/-- How many units ahead of the end or an error. -/
def CountU (b : List UInt8) (m : Nat) : Prop := (∀ j, j < m → goesU b j) ∧ ¬ goesU b m
theorem count_one {b : List UInt8} {m k : Nat} (h : CountU b m) (h' : CountU b k) : m = k := by
  rcases Nat.lt_trichotomy m k with c | c | c
  · exact absurd (h'.1 m c) h.2
  · exact c
  · exact absurd (h.1 k c) h'.2
theorem goes_bound {b : List UInt8} {k : Nat} (h : goesU b k) : (posU b (k + 1)).1 ≤ b.length := (oneE_ok h.1).2.1
theorem pos_ge {b : List UInt8} (k : Nat) : 13 * k ≤ (posU b k).1 := by
  induction k with
  | zero => exact Nat.zero_le _
  | succ k ih =>
    have : 13 ≤ unitN (nextB b (posU b k).1 13) := Nat.le_max_right _ _
    show 13 * (k + 1) ≤ (posU b k).1 + unitN (nextB b (posU b k).1 13)
    omega
theorem count_le {b : List UInt8} {k : Nat} (h : ∀ j, j < k → goesU b j) : 13 * k ≤ b.length := by
  cases k with
  | zero => exact Nat.zero_le _
  | succ k => exact Nat.le_trans (pos_ge (b := b) (k + 1)) (goes_bound (h k (Nat.lt_succ_self k)))

abbrev UX := (Nat × List UInt8) × Value
def encU (x : UX) : Array Value := #[.agg #[.int .i64 (x.1.1 : Nat), x.2]]
def UG (lo : Nat) (x : UX) (w : World) : Prop := BytesAt w lo x.2 x.1.2
def KU (A B : World) : Prop := Kept [66, 73] A B ∧ A.heap.size ≤ B.heap.size
theorem KU.trans {A B C : World} (h : KU A B) (k : KU B C) : KU A C := ⟨h.1.trans k.1, Nat.le_trans h.2 k.2⟩
/-- where a walker's iterator stands -/
structure UnSt (V : World) (b1 b2 eb wb cb lo : Nat) (ev : Int) (size : Int) (ended : Bool) (b : List UInt8) (at_ : Nat) : Prop where
  x1 : V.heap[b1]? = some (.cells #[.pointer (some ⟨wb, 0, none⟩)] 63 (0, 0))
  x2 : V.heap[b2]? = some (.cells #[.pointer (some ⟨eb, 0, none⟩)] 101 (0, 0))
  xe : V.heap[eb]? = some (.cells #[.int .i64 ev] 67 (0, 0))
  wk : Wkr V wb cb lo size ended b at_
theorem UnSt.later {V V' : World} {b1 b2 eb wb cb lo at_ : Nat} {ev size : Int} {ended : Bool} {b : List UInt8} (h : UnSt V b1 b2 eb wb cb lo ev size ended b at_) (hb : Below V.heap.size V V') : UnSt V' b1 b2 eb wb cb lo ev size ended b at_ :=
  ⟨block_later h.x1 hb, block_later h.x2 hb, block_later h.xe hb, h.wk.later hb⟩
theorem UnSt.kept {ts : List TypeId} {V V' : World} {b1 b2 eb wb cb lo at_ : Nat} {ev size : Int} {ended : Bool} {b : List UInt8} (h : UnSt V b1 b2 eb wb cb lo ev size ended b at_) (hk : Kept ts V V') (ht : ∀ t ∈ ([63, 101, 67, 5, 87, 93] : List TypeId), t ∉ ts) : UnSt V' b1 b2 eb wb cb lo ev size ended b at_ :=
  ⟨hk _ _ _ _ h.x1 (ht _ (by decide)), hk _ _ _ _ h.x2 (ht _ (by decide)), hk _ _ _ _ h.xe (ht _ (by decide)), h.wk.kept hk (ht _ (by decide)) (ht _ (by decide)) (ht _ (by decide))⟩
theorem UnSt.set {V : World} {b1 b2 eb wb cb lo at_ : Nat} {ev size : Int} {ended : Bool} {b : List UInt8} (h : UnSt V b1 b2 eb wb cb lo ev size ended b at_) (e : Int) : UnSt (V.setCell ⟨eb, 0, none⟩ (.int .i64 e)) b1 b2 eb wb cb lo e size ended b at_ := by
  have hk := kept_set (ts := [67]) h.xe (by decide) (o := 0) (.int .i64 e)
  exact ⟨hk _ _ _ _ h.x1 (by decide), hk _ _ _ _ h.x2 (by decide), heap_setCell_same _ _ 0 _ _ _ h.xe, h.wk.kept hk (by decide) (by decide) (by decide)⟩
/-- What the iterator leaves. -/
def UnFin (eb wb cb lo : Nat) (b : List UInt8) (xs : List UX) (W : World) : Prop :=
  ∃ m size ended, CountU b m ∧ xs.map (·.1) = (List.range m).map (elU b) ∧ W.heap[eb]? = some (.cells #[.int .i64 (errU b m)] 67 (0, 0)) ∧ Wkr W wb cb lo size ended b (endU b m)
/-- how much is ahead of a cursor -/
def aheadOf (n cb : Nat) (W : World) : Nat := match W.cell? ⟨cb, 1, none⟩ with
  | some (.int _ a) => n - a.toNat
  | _ => 0
theorem ahead_cur {W : World} {lo cb at_ : Nat} {b : List UInt8} (h : Cur W lo cb b at_) : aheadOf b.length cb W = b.length - at_ := by
  obtain ⟨v, hb, _, _⟩ := h
  unfold aheadOf
  rw [hb.c1]
  simp
end Go.Proofs.Ytbekkdlgibijdaa
