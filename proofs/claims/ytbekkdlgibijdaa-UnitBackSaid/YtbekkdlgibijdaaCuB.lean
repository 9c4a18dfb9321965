/- The contract of a cursor's next. -/
import Derived.Test.YtbekkdlgibijdaaCuA
namespace Go.Proofs.Ytbekkdlgibijdaa
open Go.RowKit

theorem next_nil (n : Int) (w : World) : Calls Try.prog 44 #[.pointer none, .int .i64 n] w fun e w' => e = .returned (.tuple #[.slice none 0 0, .bool (decide (n = 0))]) ∧ ∃ k, w' = w.drewN k := by
  by_cases h0 : n = 0
  · subst h0
    go_enter Try.func44, Try.ntmps44
    go_wp2_with (go_at_call 19; refine (left_nil _).mono ?_; rintro e w1 ⟨rfl, k, rfl⟩)
    go_ret2
    exact ⟨rfl, _, rfl⟩
  · have hd : decide (n = 0) = false := decide_eq_false h0
    rw [hd]
    by_cases h1 : n < 0
    · clear hd h0
      go_enter Try.func44, Try.ntmps44
      go_wp2
      go_ret2
      exact ⟨rfl, 0, rfl⟩
    · have h2 : 0 < n := by omega
      clear hd h0
      go_enter Try.func44, Try.ntmps44
      go_wp2_with (go_at_call 19; refine (left_nil _).mono ?_; rintro e w1 ⟨rfl, k, rfl⟩)
      go_ret2
      exact ⟨rfl, _, rfl⟩

section
variable {cb : Nat} {A : Option Addr} {c len at_ : Nat} {n : Int} {w : World}
set_option maxHeartbeats 800000 in
theorem next_no (h : CurBox w cb (.slice A len c) at_) (hat : at_ ≤ len) (hl : len ≤ 4294967296) (hn : n < 0 ∨ (len : Int) - at_ < n) :
    Calls Try.prog 44 #[.pointer (some ⟨cb, 0, none⟩), .int .i64 n] w fun e w' => e = .returned (.tuple #[.slice none 0 0, .bool false]) ∧ ∃ k, w' = w.drewN k := by
  have hL := left_any cb A c len at_ w h hat hl
  have HL := Lib.hid hL
  clear hL h hl
  rcases hn with hn | hn
  · go_enter Try.func44, Try.ntmps44
    go_wp2
    go_ret2
    exact ⟨rfl, 0, rfl⟩
  · have h2 : ¬ n < 0 := by omega
    go_enter Try.func44, Try.ntmps44
    go_wp2_with (go_at_call 19; refine HL.out.mono ?_; rintro e w1 ⟨rfl, k, rfl⟩)
    go_ret2
    exact ⟨rfl, _, rfl⟩
set_option maxHeartbeats 800000 in
theorem next_zero (h : CurBox w cb (.slice A len c) at_) (hat : at_ ≤ len) (hl : len ≤ 4294967296) :
    Calls Try.prog 44 #[.pointer (some ⟨cb, 0, none⟩), .int .i64 0] w fun e w' => e = .returned (.tuple #[.slice none 0 0, .bool true]) ∧ ∃ k, w' = w.drewN k := by
  have hL := left_any cb A c len at_ w h hat hl
  have HL := Lib.hid hL
  have h2 : ¬ (len : Int) - at_ < 0 := by omega
  clear hL h hl
  go_enter Try.func44, Try.ntmps44
  go_wp2_with (go_at_call 19; refine HL.out.mono ?_; rintro e w1 ⟨rfl, k, rfl⟩)
  go_ret2
  exact ⟨rfl, _, rfl⟩
set_option maxHeartbeats 800000 in
theorem next_some {g off m : Nat} (h : CurBox w cb (.slice (some ⟨g, off, none⟩) len c) at_) (hc : len ≤ c) (hm : 0 < m) (hml : at_ + m ≤ len) (hl : len ≤ 4294967296) :
    Calls Try.prog 44 #[.pointer (some ⟨cb, 0, none⟩), .int .i64 (m : Nat)] w fun e w' => e = .returned (.tuple #[.slice (some ⟨g, off + at_, none⟩) m m, .bool true]) ∧ ∃ k, w' = (w.setCell ⟨cb, 1, none⟩ (.int .i64 ((at_ + m : Nat) : Int))).drewN k := by
  have hL := left_any cb _ c len at_ w h (by omega) hl
  have HL := Lib.hid hL
  have hx := heap_setCell_same _ _ 1 _ _ (.int .i64 ((at_ : Int) + (m : Int))) h
  have k0 := fun k => CurBox.c0 (w := w.drewN k) h
  have k1 := fun k => CurBox.c1 (w := w.drewN k) h
  have kf := fun k => CurBox.f1 (w := w.drewN k) h 1
  have i1 : ¬ (m : Int) < 0 := by omega
  have i2 : ¬ (len : Int) - at_ < m := by omega
  have i3 : ((m : Int) == 0) = false := by simp; omega
  have i4 : (len : Int) ≤ 4294967296 := by omega
  have i5 : (at_ : Int) + m ≤ len := by omega
  have i6 : (len : Int) ≤ c := by omega
  have HX := Lib.hid hx
  clear hL h hl hx
  go_enter Try.func44, Try.ntmps44
  go_wp2_with (go_at_call 19; refine HL.out.mono ?_; rintro e w1 ⟨rfl, k, rfl⟩)
  obtain ⟨w2, hw2⟩ : ∃ w2, w2 = (w.drewN k).setCell ⟨cb, 1, none⟩ (.int .i64 ((at_ : Int) + (m : Int))) := ⟨_, rfl⟩
  have hx2 : w2.heap[cb]? = some (.cells #[.slice (some ⟨g, off, none⟩) len c, .int .i64 ((at_ : Int) + (m : Int))] 87 (0, 0)) := by rw [hw2]; exact HX.out
  have e0 : w2.cell? ⟨cb, 0, none⟩ = some (.slice (some ⟨g, off, none⟩) len c) := cell_of_row _ _ 0 _ _ _ hx2
  have e1 : w2.cell? ⟨cb, 1, none⟩ = some (.int .i64 ((at_ : Int) + (m : Int))) := cell_of_row _ _ 1 _ _ _ hx2
  rw [← hw2]
  have q1 : IntKind.i64.wrap ((at_ : Int) + (m : Int) - (m : Int)) = at_ := by rw [IntKind.wrap_i64]; omega
  have q2 : (0 : Int) ≤ at_ := by omega
  have q3 : (at_ : Int) ≤ (at_ : Int) + m := by omega
  have q4 : (at_ : Int) + m ≤ c := by omega
  have HW := Lib.hid hw2
  clear hw2 hx2 k0 k1 kf
  go_quiet (fail)
  go_wp2
  go_ret2
  have hk : (w2.drewN nq) = (w.setCell ⟨cb, 1, none⟩ (.int .i64 ((at_ + m : Nat) : Int))).drewN (k + nq) := by
    rw [HW.out, Int.natCast_add]
    show World.drewN _ _ = _
    simp only [World.drewN, World.setCell]
    congr 1
    omega
  exact ⟨by rw [show at_ + m - at_ = m by omega]; rfl, _, hk⟩
end
end Go.Proofs.Ytbekkdlgibijdaa
