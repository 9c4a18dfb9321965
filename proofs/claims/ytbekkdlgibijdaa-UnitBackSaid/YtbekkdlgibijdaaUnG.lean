/- A walker: New, Left, Next whole. -/
import Derived.Test.YtbekkdlgibijdaaUnF
namespace Go.Proofs.Ytbekkdlgibijdaa
open Go.RowKit

/-- A walker over bytes: where it stands, how long the unit behind it is, whether it has come to the end. -/
structure Wkr (w : World) (wb cb lo : Nat) (size : Int) (ended : Bool) (b : List UInt8) (at_ : Nat) : Prop where
  wk : WkAt w wb cb size ended
  cur : Cur w lo cb b at_
theorem Wkr.later {w w' : World} {wb cb lo at_ : Nat} {size : Int} {ended : Bool} {b : List UInt8} (h : Wkr w wb cb lo size ended b at_) (hb : Below w.heap.size w w') : Wkr w' wb cb lo size ended b at_ := ⟨h.wk.later hb, h.cur.later hb⟩
theorem Wkr.kept {ts : List TypeId} {w w' : World} {wb cb lo at_ : Nat} {size : Int} {ended : Bool} {b : List UInt8} (h : Wkr w wb cb lo size ended b at_) (hk : Kept ts w w') (h5 : (5 : TypeId) ∉ ts) (h87 : (87 : TypeId) ∉ ts) (h93 : (93 : TypeId) ∉ ts) : Wkr w' wb cb lo size ended b at_ := ⟨hk _ _ _ _ h.wk h93, h.cur.kept hk h5 h87⟩
/-- the error of a walker's next unit -/
def wkE (b : List UInt8) (at_ : Nat) (size : Int) (ended : Bool) : Int := if ended = true then 272 else oneE b at_ size

set_option maxHeartbeats 1000000 in
theorem new34_any (v : Value) (b : List UInt8) (w : World) (h : BytesR w v b) (hl : b.length ≤ 4294967296) :
    Calls Try.prog 34 #[v] w fun e w' => ∃ wb cb, e = .returned (.pointer (some ⟨wb, 0, none⟩)) ∧ w.heap.size ≤ wb ∧ w.heap.size ≤ cb ∧ Wkr w' wb cb w.heap.size 0 false b 0 ∧ Below w.heap.size w w' := by
  have HH := Lib.hid h
  obtain ⟨A, c, rfl, _, _⟩ := h
  go_enter Try.func34, Try.ntmps34
  go_wp2_with (go_at_call 12; refine (new_r _ b _ HH.out hl).mono ?_; rintro e w1 ⟨cb, rfl, hcb, hC, hb⟩; have HC := Lib.hid (And.intro hcb (And.intro hC hb)); clear hcb hC hb)
  go_ret
  obtain ⟨hcb, hC, hb⟩ := HC.out
  exact ⟨w1.heap.size, cb, rfl, hb.size, hcb, ⟨heap_alloc_new _ _, hC.later ((Below.refl _ _).alloc (Nat.le_refl _) _)⟩, hb.alloc hb.size _⟩
theorem left36_nil (w : World) : Calls Try.prog 36 #[.pointer none] w fun e w' => e = .returned (.int .i64 0) ∧ Below w.heap.size w w' := by
  go_enter Try.func36, Try.ntmps36
  go_wp2
  go_ret
  exact ⟨rfl, Below.refl _ _⟩
theorem left36_any {w : World} {wb cb lo at_ : Nat} {size : Int} {ended : Bool} {b : List UInt8} (h : Wkr w wb cb lo size ended b at_) (hl : b.length ≤ 4294967296) :
    Calls Try.prog 36 #[.pointer (some ⟨wb, 0, none⟩)] w fun e w' => e = .returned (.int .i64 ((b.length - at_ : Nat) : Int)) ∧ Below w.heap.size w w' := by
  have k0 : w.cell? ⟨wb, 0, none⟩ = some (.pointer (some ⟨cb, 0, none⟩)) := cell_of_row _ _ 0 _ _ _ h.wk
  have hL := left_cur h.cur hl
  have HL := Lib.hid hL
  clear h hL
  go_enter Try.func36, Try.ntmps36
  go_wp2_with (go_at_call 19; refine HL.out.mono ?_; rintro e w1 ⟨rfl, k, hw⟩; have HB := Lib.hid (show Below w.heap.size w w1 by rw [hw]; exact below_drawn _ _ _); clear hw)
  go_ret
  exact ⟨rfl, HB.out⟩
theorem Wkr.bound {w : World} {wb cb lo at_ : Nat} {size : Int} {ended : Bool} {b : List UInt8} (h : Wkr w wb cb lo size ended b at_) : at_ ≤ b.length := by
  obtain ⟨_, _, _, h⟩ := h.cur
  exact h
/-- Next, where there is no unit. -/
theorem next35_no {w : World} {wb cb lo at_ : Nat} {size : Int} {ended : Bool} {b : List UInt8} (h : Wkr w wb cb lo size ended b at_) (hl : b.length ≤ 4294967296) (hE : wkE b at_ size ended ≠ 0) :
    Calls Try.prog 35 #[.pointer (some ⟨wb, 0, none⟩)] w fun e w' => e = .returned (.tuple #[.agg z66, .int .i64 (wkE b at_ size ended)]) ∧ Below w.heap.size w w' := by
  refine next35_err hE (fun V hV => ?_)
  have h2 := h.later hV
  cases ended with
  | true => exact look_ended h2.wk
  | false =>
    have h3 := look_any h2.wk h2.cur hl
    have h4 : wkE b at_ size false = oneE b at_ size := rfl
    rw [h4] at hE ⊢
    rw [lookV_ne hE] at h3
    exact h3
/-- Next, where there is one. -/
theorem next35_yes {w : World} {wb cb lo at_ : Nat} {size : Int} {ended : Bool} {b : List UInt8} (h : Wkr w wb cb lo size ended b at_) (hl : b.length ≤ 4294967296) (hE : wkE b at_ size ended = 0) :
    Calls Try.prog 35 #[.pointer (some ⟨wb, 0, none⟩)] w (NxPost w wb cb lo b at_ (hCode (nextB b at_ 13)) (unitN (nextB b at_ 13))) := by
  cases ended with
  | true => cases hE
  | false => exact next35_ok h.wk h.cur hl hE
end Go.Proofs.Ytbekkdlgibijdaa
