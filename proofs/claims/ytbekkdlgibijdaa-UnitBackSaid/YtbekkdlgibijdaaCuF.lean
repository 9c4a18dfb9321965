/- Contracts of New, Take, Sub. -/
import Derived.Test.YtbekkdlgibijdaaCuE
namespace Go.Proofs.Ytbekkdlgibijdaa
open Go.RowKit

theorem own_mono {w : World} {b b' : Nat} {v : Value} {n : Nat} {xs : List Value} (h : w.ownsRow b 5 1 v n xs) (hb : b' ≤ b) : w.ownsRow b' 5 1 v n xs := by
  refine ⟨h.1, h.2.imp id ?_⟩
  rintro ⟨g, cap, cur, hv, hg, hr⟩
  exact ⟨g, cap, cur, hv, Nat.le_trans hb hg, hr⟩
theorem below_drawn (B : Nat) (w : World) (k : Nat) : Below B w (w.drewN k) := ⟨rfl, rfl, rfl, Nat.le_refl _, fun _ _ => rfl⟩

set_option maxHeartbeats 1000000 in
theorem new_any (v : Value) (lo : Nat) (l : List UInt8) (w : World) (h : BytesAt w lo v l) (hl : l.length ≤ 4294967296) :
    Calls Try.prog 12 #[v] w fun e w' => ∃ cb, e = .returned (.pointer (some ⟨cb, 0, none⟩)) ∧ w.heap.size ≤ cb ∧ Cur w' w.heap.size cb l 0 ∧ Below w.heap.size w w' := by
  have HH := Lib.hid h
  obtain ⟨A, c, rfl, _, _⟩ := h
  go_enter Try.func12, Try.ntmps12
  go_wp2_with (go_at_call 43; refine (clone_any _ lo l _ HH.out hl).mono ?_; rintro e w1 ⟨v', rfl, hown, hbel⟩; have H1 := Lib.hid hown; have H2 := Lib.hid hbel; obtain ⟨A1, c1, rfl, _, _⟩ := bytes_of_own hown; clear hown hbel)
  go_ret
  have hs := H2.out.size
  refine ⟨w1.heap.size, rfl, hs, ⟨_, heap_alloc_new _ _, (bytes_of_own H1.out).later ((Below.refl _ _).alloc (Nat.le_refl _) _), Nat.zero_le _⟩, H2.out.alloc (by omega) _⟩
section
variable {w : World} {lo cb : Nat} {l : List UInt8} {at_ : Nat}
theorem take_yes (m : Nat) (h : Cur w lo cb l at_) (hl : l.length ≤ 4294967296) (hm : at_ + m ≤ l.length) :
    Calls Try.prog 16 #[.pointer (some ⟨cb, 0, none⟩), .int .i64 (m : Nat)] w fun e w' => ∃ v, e = .returned (.tuple #[v, .bool true]) ∧ w'.ownsRow w.heap.size 5 1 v (nextB l at_ m).length ((nextB l at_ m).map bv) ∧ Cur w' lo cb l (at_ + m) ∧ w.grownBy w' (some cb) := by
  have hN := next_yes (m := m) h hl hm
  have HN := Lib.hid hN
  have hlen := nextB_len hm
  have HL := Lib.hid hlen
  have HM := Lib.hid (show m ≤ 4294967296 by omega)
  clear hN h hl hm hlen
  go_enter Try.func16, Try.ntmps16
  go_wp2_with (first
    | (go_at_call 44; refine HN.out.mono ?_; rintro e w1 ⟨v, rfl, hb, hC, hG⟩; have HB := Lib.hid hb; have HC := Lib.hid hC; have HG := Lib.hid hG; clear hb hC hG)
    | (go_at_call 43; refine (clone_any _ lo _ _ HB.out (by rw [HL.out]; exact HM.out)).mono ?_; rintro e w2 ⟨v', rfl, hown, hbel⟩; have H1 := Lib.hid hown; have H2 := Lib.hid hbel; clear hown hbel))
  go_ret2
  exact ⟨_, rfl, own_mono H1.out HG.out.size, HC.out.later H2.out, grown_below HG.out H2.out⟩
theorem take_not (n : Int) (h : Cur w lo cb l at_) (hl : l.length ≤ 4294967296) (hn : n < 0 ∨ (l.length : Int) - at_ < n) :
    Calls Try.prog 16 #[.pointer (some ⟨cb, 0, none⟩), .int .i64 n] w fun e w' => ∃ v, e = .returned (.tuple #[v, .bool false]) ∧ w'.ownsRow w.heap.size 5 1 v 0 [] ∧ Below w.heap.size w w' := by
  have hN := next_not (n := n) h hl hn
  have HN := Lib.hid hN
  clear hN h hl hn
  go_enter Try.func16, Try.ntmps16
  go_wp2_with (first
    | (go_at_call 44; refine HN.out.mono ?_; rintro e w1 ⟨rfl, k, rfl⟩)
    | (go_at_call 43; refine (clone_any _ 0 [] _ (bytes_nil _ _) (by simp)).mono ?_; rintro e w2 ⟨v', rfl, hown, hbel⟩; have H1 := Lib.hid hown; have H2 := Lib.hid hbel; clear hown hbel))
  go_ret2
  exact ⟨_, rfl, H1.out, (below_drawn _ w k).trans H2.out⟩
theorem take_nil (w : World) : Calls Try.prog 16 #[.pointer none, .int .i64 0] w fun e w' => ∃ v, e = .returned (.tuple #[v, .bool true]) ∧ Below w.heap.size w w' := by
  go_enter Try.func16, Try.ntmps16
  go_wp2_with (first
    | (go_at_call 44; refine (next_nil 0 _).mono ?_; rintro e w1 ⟨rfl, k, rfl⟩)
    | (go_at_call 43; refine (clone_any _ 0 [] _ (bytes_nil _ _) (by simp)).mono ?_; rintro e w2 ⟨v', rfl, hown, hbel⟩; have H1 := Lib.hid hown; have H2 := Lib.hid hbel; clear hown hbel))
  go_ret2
  exact ⟨_, rfl, (below_drawn _ w k).trans H2.out⟩
theorem sub_yes (m : Nat) (h : Cur w lo cb l at_) (hl : l.length ≤ 4294967296) (hm : at_ + m ≤ l.length) :
    Calls Try.prog 18 #[.pointer (some ⟨cb, 0, none⟩), .int .i64 (m : Nat)] w fun e w' => ∃ sb, e = .returned (.tuple #[.pointer (some ⟨sb, 0, none⟩), .bool true]) ∧ w.heap.size ≤ sb ∧ Cur w' lo sb (nextB l at_ m) 0 ∧ Cur w' lo cb l (at_ + m) ∧ w.grownBy w' (some cb) := by
  have hN := next_yes (m := m) h hl hm
  have HN := Lib.hid hN
  clear hN h hl hm
  go_enter Try.func18, Try.ntmps18
  go_wp2_with (go_at_call 44; refine HN.out.mono ?_; rintro e w1 ⟨v, rfl, hb, hC, hG⟩; have HB := Lib.hid hb; have HC := Lib.hid hC; have HG := Lib.hid hG; obtain ⟨A1, c1, rfl, _, _⟩ := hb; clear hC hG)
  go_ret2
  have hb1 : Below w1.heap.size w1 (w1.alloc (.cells #[.slice A1 (nextB l at_ m).length c1, .int .i64 0] 87)) := (Below.refl _ _).alloc (Nat.le_refl _) _
  exact ⟨w1.heap.size, rfl, HG.out.size, ⟨_, heap_alloc_new _ _, HB.out.later hb1, Nat.zero_le _⟩, HC.out.later hb1, grown_below HG.out hb1⟩
theorem sub_not (n : Int) (h : Cur w lo cb l at_) (hl : l.length ≤ 4294967296) (hn : n < 0 ∨ (l.length : Int) - at_ < n) :
    Calls Try.prog 18 #[.pointer (some ⟨cb, 0, none⟩), .int .i64 n] w fun e w' => e = .returned (.tuple #[.pointer none, .bool false]) ∧ ∃ k, w' = w.drewN k := by
  have hN := next_not (n := n) h hl hn
  have HN := Lib.hid hN
  clear hN h hl hn
  go_enter Try.func18, Try.ntmps18
  go_wp2_with (go_at_call 44; refine HN.out.mono ?_; rintro e w1 ⟨rfl, k, rfl⟩)
  go_ret2
  exact ⟨rfl, _, rfl⟩
end
end Go.Proofs.Ytbekkdlgibijdaa
