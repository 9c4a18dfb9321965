/- first of layer 03. -/
import Derived.Test.YtbekkdlgibijdaaCuI
namespace Go.Proofs.Ytbekkdlgibijdaa
open Go.RowKit

theorem below_alloc {N : Nat} {w0 w : World} (h : Below N w0 w) (hN : N ≤ w.heap.size) (o : Obj) : Below N w0 (w.alloc o) := h.alloc hN o
theorem below_grown2 {N r : Nat} {w0 w w' : World} (h : Below N w0 w) (hg : w.grownBy w' (some r)) (hN : N ≤ w.heap.size) (hr : N ≤ r) : Below N w0 w' := h.trans (below_of_grown hg hN hr)
abbrev five : List UInt8 := [0, 0, 1, 2, 9]
theorem hx9 (w : World) : BytesAt (w.alloc (.cells #[.int .u8 9] 5)) 0 (.slice (some ⟨w.heap.size, 0, none⟩) 1 1) [9] := by
  refine ⟨_, 1, rfl, Nat.le_refl _, .inr ⟨w.heap.size, 0, _, _, rfl, Nat.zero_le _, heap_alloc_new _ _, fun j hj => ?_⟩⟩
  have hj : j < 1 := hj
  match j, hj with
  | 0, _ => rfl
theorem hx5 (w : World) : BytesAt (w.alloc (.cells #[.int .u8 0, .int .u8 0, .int .u8 1, .int .u8 2, .int .u8 9] 5)) 0 (.slice (some ⟨w.heap.size, 0, none⟩) 5 5) five := by
  refine ⟨_, 5, rfl, Nat.le_refl _, .inr ⟨w.heap.size, 0, _, _, rfl, Nat.zero_le _, heap_alloc_new _ _, fun j hj => ?_⟩⟩
  have hj : j < 5 := hj
  match j, hj with
  | 0, _ => rfl
  | 1, _ => rfl
  | 2, _ => rfl
  | 3, _ => rfl
  | 4, _ => rfl
theorem five_word {w : World} {lo cb : Nat} (h : Cur w lo cb five 0) : Calls Try.prog 13 #[.pointer (some ⟨cb, 0, none⟩)] w fun e w' => e = .returned (.tuple #[.int .i64 258, .bool true]) ∧ Cur w' lo cb five 4 ∧ w.grownBy w' (some cb) :=
  word_yes h (by decide) (by decide)
theorem five_byte {w : World} {lo cb : Nat} (h : Cur w lo cb five 4) : Calls Try.prog 14 #[.pointer (some ⟨cb, 0, none⟩)] w fun e w' => e = .returned (.tuple #[.int .i64 9, .bool true]) ∧ Cur w' lo cb five 5 ∧ w.grownBy w' (some cb) :=
  byte_yes h (by decide) (by decide)
theorem five_left {w : World} {lo cb : Nat} (h : Cur w lo cb five 5) : Calls Try.prog 19 #[.pointer (some ⟨cb, 0, none⟩)] w fun e w' => e = .returned (.int .i64 0) ∧ ∃ k, w' = w.drewN k :=
  left_cur h (by decide)
theorem five_pen (w : World) (B : Nat) (h : PenAt w B (([] ++ spellB 258) ++ [9])) : PenAt w B five := h
theorem five_str {w : World} {lo : Nat} {v : Value} (h : BytesAt w lo v five) : (convert 22 9 v).run Try.prog w = .ok (.string ⟨#[0, 0, 1, 2, 9]⟩) w := h.str

set_option maxRecDepth 8000 in
set_option maxHeartbeats 4000000 in
theorem first03 (w : World) : Calls Try.prog 11 #[] w fun e w' => e = .returned (.bool true) ∧ Below w.heap.size w w' := by
  go_enter Try.func11, Try.ntmps11
  go_wp2_with (first
    | (go_at_call 22; refine (penW_yes 258 (by decide) (pen_new w) (by decide)).mono ?_; rintro e w1 ⟨rfl, hp, hb⟩; have HP1 := Lib.hid hp; have HB1 := Lib.hid (((Below.refl w.heap.size w).alloc (Nat.le_refl _) _).trans hb); clear hp hb)
    | (go_at_call 24; refine (add_any (lo := 0) (x := [9]) (HP1.out.later ((Below.refl _ _).alloc (Nat.le_refl _) _)) (hx9 w1) (by intro n c h; cases h) (by decide)).mono ?_; rintro e w2 ⟨⟨u, rfl⟩, hp, hb⟩; have HP2 := Lib.hid (five_pen _ _ hp); have HB2 := Lib.hid ((HB1.out.alloc HB1.out.size _).trans hb); clear hp hb)
    | (go_at_call 12; refine (new_any _ 0 five _ (hx5 w2) (by decide)).mono ?_; rintro e w3 ⟨cb, rfl, hcb, hC, hb⟩; have HP3 := Lib.hid ((HP2.out.later ((Below.refl _ _).alloc (Nat.le_refl _) _)).later hb); have HC3 := Lib.hid hC; have hk := HB2.out.size; have HN := Lib.hid (show w.heap.size ≤ cb by simp at hcb; omega); have HB3 := Lib.hid ((HB2.out.alloc HB2.out.size _).trans (hb.mono (by simp; omega))); clear hC hb hk hcb)
    | (go_at_call 13; refine (word_not HC4.out (by decide) (by decide)).mono ?_; rintro e w5 ⟨rfl, k5, rfl⟩)
    | (go_at_call 13; refine (five_word HC3.out).mono ?_; rintro e w4 ⟨rfl, hC, hg⟩; have HP4 := Lib.hid (HP3.out.grown hg HC3.out.typed2); have HC4 := Lib.hid hC; have HB4 := Lib.hid (below_grown2 HB3.out hg HB3.out.size HN.out); clear hC hg)
    | (go_at_call 14; refine (five_byte (HC4.out.later (below_drawn _ _ _))).mono ?_; rintro e w6 ⟨rfl, hC, hg⟩; have HP6 := Lib.hid ((HP4.out.later (below_drawn _ _ _)).grown hg (HC4.out.later (below_drawn _ _ _)).typed2); have HC6 := Lib.hid hC; have HB6 := Lib.hid (below_grown2 (HB4.out.trans (below_drawn _ _ _)) hg HB4.out.size HN.out); clear hC hg)
    | (go_at_call 26; refine (pbytes_any HP6.out (by decide)).mono ?_; rintro e w7 ⟨v7, rfl, hown, hb⟩; have hs := five_str (bytes_of_own hown); have HP7 := Lib.hid (HP6.out.later hb); have HC7 := Lib.hid (HC6.out.later hb); have HB7 := Lib.hid (HB6.out.trans (hb.mono HB6.out.size)); clear hown hb)
    | (go_at_call 20; refine (at_cur HC7.out).mono ?_; rintro e w8 ⟨rfl, rfl⟩)
    | (go_at_call 19; refine (five_left HC7.out).mono ?_; rintro e w8 ⟨rfl, k8, rfl⟩)
    | (go_at_call 25; refine (patch_not 2 1 HP9.out (by decide) (by decide)).mono ?_; rintro e w10 ⟨rfl, rfl⟩)
    | (go_at_call 25; refine (patch_yes 1 1 (by decide) (HP7.out.later (below_drawn _ _ _)) (by decide) (by decide)).mono ?_; rintro e w9 ⟨rfl, hp, hb⟩; have HP9 := Lib.hid hp; have HB9 := Lib.hid (HB7.out.trans ((below_drawn _ _ _).trans (hb.mono (Nat.le_succ _)))); clear hp hb))
  go_ret
  exact ⟨rfl, HB9.out⟩
end Go.Proofs.Ytbekkdlgibijdaa
