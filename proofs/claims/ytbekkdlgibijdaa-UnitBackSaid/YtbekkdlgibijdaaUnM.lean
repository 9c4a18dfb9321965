/- The contract of put: a unit's head is written. -/
import Derived.Test.YtbekkdlgibijdaaUnL
import Derived.Test.YtbekkdlgibijdaaCuP
import Derived.Lib.SlBytesConst
namespace Go.Proofs.Ytbekkdlgibijdaa
open Go.RowKit

/-- a unit's head as bytes -/
def unitB (cd nx pv : Nat) : List UInt8 := ((markB ++ [UInt8.ofNat cd]) ++ spellB nx) ++ spellB pv
theorem unitB_len (cd nx pv : Nat) : (unitB cd nx pv).length = 13 := rfl
theorem PenAt.lt {w : World} {B : Nat} {l : List UInt8} (h : PenAt w B l) : B < w.heap.size := by
  obtain ⟨v, hb, _⟩ := h
  exact block_lt hb
theorem mark_new (w : World) : BytesC (w.alloc (.cells #[.int .u8 66, .int .u8 66, .int .u8 67, .int .u8 68] 5 (4, 5))) (.slice (some ⟨w.heap.size, 0, none⟩) 4 4) markB := by
  refine ⟨_, 4, rfl, Nat.le_refl _, (fun h => by cases h), w.heap.size, 0, .inr rfl, fun j hj => ?_⟩
  have hj : j < 4 := hj
  rw [cell_of_row _ _ _ _ _ _ (heap_alloc_new w _)]
  match j, hj with
  | 0, _ => rfl
  | 1, _ => rfl
  | 2, _ => rfl
  | 3, _ => rfl
set_option maxRecDepth 4000 in
set_option maxHeartbeats 2000000 in
theorem put_any {w : World} {B : Nat} {l : List UInt8} (cd nx pv : Nat) (h : PenAt w B l) (hl : l.length ≤ 4294967200) (h1 : cd < 256) (h2 : nx < 4294967296) (h3 : pv < 4294967296) :
    Calls Try.prog 51 #[.pointer (some ⟨B, 0, none⟩), .int .i64 (cd : Nat), .int .i64 (nx : Nat), .int .i64 (pv : Nat)] w fun e w' => (∃ v, e = .returned v) ∧ PenAt w' B (l ++ unitB cd nx pv) ∧ Below B w w' ∧ Typed w w' := by
  have hB := h.lt
  have HP0 := Lib.hid (h.later ((Below.refl _ w).alloc (Nat.le_refl _) (.cells #[.int .u8 66, .int .u8 66, .int .u8 67, .int .u8 68] 5 (4, 5))))
  have HB0 := Lib.hid ((Below.refl B w).alloc (by omega) (.cells #[.int .u8 66, .int .u8 66, .int .u8 67, .int .u8 68] 5 (4, 5)))
  have hcv := Lib.run_convert_bytes_const (P := Try.prog) w 22 5 #[.int .u8 66, .int .u8 66, .int .u8 67, .int .u8 68] 4 4 Try.underlying22 Try.underlying5
  have he : l ++ unitB cd nx pv = (((l ++ markB) ++ [UInt8.ofNat cd]) ++ spellB nx) ++ spellB pv := by simp [unitB]
  rw [he]
  obtain ⟨l1, hl1⟩ : ∃ x, x = l ++ markB := ⟨_, rfl⟩
  obtain ⟨l2, hl2⟩ : ∃ x, x = l1 ++ [UInt8.ofNat cd] := ⟨_, rfl⟩
  obtain ⟨l3, hl3⟩ : ∃ x, x = l2 ++ spellB nx := ⟨_, rfl⟩
  obtain ⟨l4, hl4⟩ : ∃ x, x = l3 ++ spellB pv := ⟨_, rfl⟩
  have e1 : l1.length = l.length + 4 := by rw [hl1]; simp [markB]
  have e2 : l2.length = l1.length + 1 := by rw [hl2]; simp
  have e3 : l3.length = l2.length + 4 := by rw [hl3]; simp [spellB]
  have HL := Lib.hid (And.intro hl1 (And.intro hl2 (And.intro hl3 hl4)))
  have HM := Lib.hid (show l.length + markB.length ≤ 4294967296 ∧ l1.length ≤ 4294967296 ∧ l2.length ≤ 4294967296 ∧ l3.length ≤ 4294967296 by simp [markB]; omega)
  rw [← hl1, ← hl2, ← hl3, ← hl4]
  clear h hB he e1 e2 e3 hl1 hl2 hl3 hl4 hl
  go_enter Try.func51, Try.ntmps51
  go_wp2_with fail
  clear hcv
  refine (add_typed HP0.out (mark_new w) HM.out.1).mono ?_
  rw [← HL.out.1]
  rintro e w1 ⟨⟨v1, rfl⟩, hp, hb, ht⟩
  have HT1 := Lib.hid ((typed_alloc w (.cells #[.int .u8 66, .int .u8 66, .int .u8 67, .int .u8 68] 5 (4, 5))).trans ht)
  have HP1 := Lib.hid hp
  have HB1 := Lib.hid (HB0.out.trans hb)
  clear hp hb ht
  go_wp2_with fail
  refine (penB_typed cd h1 HP1.out HM.out.2.1).mono ?_
  rw [← HL.out.2.1]
  rintro e w2 ⟨rfl, hp, hb, ht⟩
  have HT2 := Lib.hid (HT1.out.trans ht)
  have HP2 := Lib.hid hp
  have HB2 := Lib.hid (HB1.out.trans hb)
  clear hp hb ht
  go_wp2_with fail
  refine (penW_typed nx h2 HP2.out HM.out.2.2.1).mono ?_
  rw [← HL.out.2.2.1]
  rintro e w3 ⟨rfl, hp, hb, ht⟩
  have HT3 := Lib.hid (HT2.out.trans ht)
  have HP3 := Lib.hid hp
  have HB3 := Lib.hid (HB2.out.trans hb)
  clear hp hb ht
  go_wp2_with fail
  refine (penW_typed pv h3 HP3.out HM.out.2.2.2).mono ?_
  rw [← HL.out.2.2.2]
  rintro e w4 ⟨rfl, hp, hb, ht⟩
  have HT4 := Lib.hid (HT3.out.trans ht)
  have HP4 := Lib.hid hp
  have HB4 := Lib.hid (HB3.out.trans hb)
  clear hp hb ht
  go_wp2
  go_end0
  exact ⟨⟨_, rfl⟩, HP4.out, HB4.out, HT4.out⟩
end Go.Proofs.Ytbekkdlgibijdaa
