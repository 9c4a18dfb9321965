/- Contracts of a cursor's small functions. -/
import Derived.Test.YtbekkdlgibijdaaCu
import Derived.StillTailTactics
import Derived.BigRegion
namespace Go.Proofs.Ytbekkdlgibijdaa
open Go.RowKit

/-- A cursor in a block of its own: its slice and how many bytes are behind. -/
def CurBox (w : World) (cb : Nat) (v : Value) (at_ : Nat) : Prop := w.heap[cb]? = some (.cells #[v, .int .i64 (at_ : Nat)] 87 (0, 0))
/-- A cursor over the bytes l, of which at_ are behind it. -/
def Cur (w : World) (lo cb : Nat) (l : List UInt8) (at_ : Nat) : Prop := ∃ v, CurBox w cb v at_ ∧ BytesAt w lo v l ∧ at_ ≤ l.length
theorem CurBox.c0 {w : World} {cb : Nat} {v : Value} {n : Nat} (h : CurBox w cb v n) : w.cell? ⟨cb, 0, none⟩ = some v := cell_of_row _ _ 0 _ _ _ h
theorem CurBox.c1 {w : World} {cb : Nat} {v : Value} {n : Nat} (h : CurBox w cb v n) : w.cell? ⟨cb, 1, none⟩ = some (.int .i64 (n : Nat)) := cell_of_row _ _ 1 _ _ _ h
theorem CurBox.f1 {w : World} {cb : Nat} {v : Value} {n : Nat} (h : CurBox w cb v n) (o : Nat) : w.frozen? ⟨cb, o, none⟩ = false := frozen_of_row _ _ _ _ _ h

set_option maxHeartbeats 400000 in
theorem at_any (cb : Nat) (v : Value) (n : Nat) (w : World) (h : CurBox w cb v n) : Calls Try.prog 20 #[.pointer (some ⟨cb, 0, none⟩)] w fun e w' => e = .returned (.int .i64 (n : Nat)) ∧ w = w' := by
  have k0 := h.c0
  have k1 := h.c1
  clear h
  go_enter Try.func20, Try.ntmps20
  go_wp2
  go_ret
  exact ⟨rfl, rfl⟩
theorem at_nil (w : World) : Calls Try.prog 20 #[.pointer none] w fun e w' => e = .returned (.int .i64 0) ∧ w = w' := by
  go_enter Try.func20, Try.ntmps20
  go_wp2
  go_ret
  exact ⟨rfl, rfl⟩
theorem left_nil (w : World) : Calls Try.prog 19 #[.pointer none] w fun e w' => e = .returned (.int .i64 0) ∧ ∃ k, w' = w.drewN k := by
  go_enter Try.func19, Try.ntmps19
  go_wp2
  go_ret
  exact ⟨rfl, 0, rfl⟩
set_option maxHeartbeats 400000 in
theorem left_any (cb : Nat) (A : Option Addr) (c len n : Nat) (w : World) (h : CurBox w cb (.slice A len c) n) (hn : n ≤ len) (hl : len ≤ 4294967296) :
    Calls Try.prog 19 #[.pointer (some ⟨cb, 0, none⟩)] w fun e w' => e = .returned (.int .i64 ((len : Int) - (n : Int))) ∧ ∃ k, w' = w.drewN k := by
  have k0 := h.c0
  have k1 := h.c1
  have i1 : (n : Int) ≤ len := by omega
  have i2 : (len : Int) ≤ 9223372036854775807 := by omega
  clear h hl
  go_enter Try.func19, Try.ntmps19
  go_wp2
  go_quiet (fail)
  go_wp2
  go_ret
  exact ⟨rfl, _, rfl⟩
end Go.Proofs.Ytbekkdlgibijdaa
