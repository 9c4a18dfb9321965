/- Contracts of a pen: right, spell, Byte, Word, Add, Bytes, Len. -/
import Derived.Test.YtbekkdlgibijdaaCuD
import Derived.Deep.RegionWith
import Derived.Deep.AppendLies
import Derived.Deep.RegionLaw
namespace Go.Proofs.Ytbekkdlgibijdaa
open Go.RowKit

/-- the four bytes of a word -/
def spellB (m : Nat) : List UInt8 := [UInt8.ofNat (m / 16777216), UInt8.ofNat (m / 65536), UInt8.ofNat (m / 256), UInt8.ofNat m]
theorem bv_ofNat (m : Nat) : bv (UInt8.ofNat m) = .int .u8 ((m % 256 : Nat) : Int) := by
  unfold bv
  rw [UInt8.toNat_ofNat']

theorem right_cut (n : Int) (w : World) : Calls Try.prog 46 #[.int .i64 n] w fun e w' => e = .returned (.bool (decide (0 ≤ n ∧ n < 4294967296))) ∧ w = w' := by
  by_cases h1 : (0 : Int) ≤ n
  · by_cases h2 : n ≤ 4294967295
    · go_enter Try.func46, Try.ntmps46
      go_wp2
      go_ret
      exact ⟨retb_eq (by simp; omega), rfl⟩
    · go_enter Try.func46, Try.ntmps46
      go_wp2
      go_ret
      exact ⟨retb_eq (by simp; omega), rfl⟩
  · go_enter Try.func46, Try.ntmps46
    go_wp2
    go_ret
    exact ⟨retb_eq (by simp; omega), rfl⟩

set_option maxHeartbeats 1000000 in
theorem spell_any (m : Nat) (hm : m < 4294967296) (w : World) : Calls Try.prog 47 #[.int .i64 (m : Nat)] w fun e w' => e = .returned (.slice (some ⟨w.heap.size, 0, none⟩) 4 4) ∧ w' = w.alloc (.cells ((spellB m).map bv).toArray 5) := by
  have h0 : (0 : Int) ≤ (m : Nat) := by omega
  have h1 : ((m : Nat) : Int) < 4294967296 := by omega
  go_enter Try.func47, Try.ntmps47
  go_wp2
  go_ret
  refine ⟨rfl, ?_⟩
  have e0 : (m : Int) / 16777216 = ((m / 16777216 % 256 : Nat) : Int) := by omega
  have e1 : (m : Int) / 65536 % 256 = ((m / 65536 % 256 : Nat) : Int) := by omega
  have e2 : (m : Int) / 256 % 256 = ((m / 256 % 256 : Nat) : Int) := by omega
  have e3 : (m : Int) % 256 = ((m % 256 : Nat) : Int) := by omega
  rw [e0, e1, e2, e3]
  simp only [spellB, List.map_cons, List.map_nil, bv_ofNat]

/-- A pen in block B; its bytes in a row of their own. -/
def PenAt (w : World) (B : Nat) (l : List UInt8) : Prop := ∃ v, w.heap[B]? = some (.cells #[v] 47 (0, 0)) ∧ w.ownsRow (B + 1) 5 1 v l.length (l.map bv)

theorem len_any {w : World} {B : Nat} {l : List UInt8} (h : PenAt w B l) : Calls Try.prog 27 #[.pointer (some ⟨B, 0, none⟩)] w fun e w' => e = .returned (.int .i64 (l.length : Nat)) ∧ w' = w := by
  obtain ⟨v, hb, hr⟩ := h
  have k0 : w.cell? ⟨B, 0, none⟩ = some v := cell_of_row _ _ 0 _ _ _ hb
  obtain ⟨A, c, rfl, hc, _⟩ := bytes_of_own hr
  clear hb hr
  go_enter Try.func27, Try.ntmps27
  go_wp2
  go_ret
  exact ⟨rfl, rfl⟩
theorem len_nil (w : World) : Calls Try.prog 27 #[.pointer none] w fun e w' => e = .returned (.int .i64 0) ∧ w' = w := by
  go_enter Try.func27, Try.ntmps27
  go_wp2
  go_ret
  exact ⟨rfl, rfl⟩
theorem pbytes_nil (w : World) : Calls Try.prog 26 #[.pointer none] w fun e w' => e = .returned (.slice none 0 0) ∧ w' = w := by
  go_enter Try.func26, Try.ntmps26
  go_wp2
  go_ret
  exact ⟨rfl, rfl⟩
theorem pbytes_any {w : World} {B : Nat} {l : List UInt8} (h : PenAt w B l) (hl : l.length ≤ 4294967296) : Calls Try.prog 26 #[.pointer (some ⟨B, 0, none⟩)] w fun e w' => ∃ v', e = .returned v' ∧ w'.ownsRow w.heap.size 5 1 v' l.length (l.map bv) ∧ Below w.heap.size w w' := by
  obtain ⟨v, hb, hr⟩ := h
  have k0 : w.cell? ⟨B, 0, none⟩ = some v := cell_of_row _ _ 0 _ _ _ hb
  have hB := bytes_of_own hr
  have HB := Lib.hid hB
  obtain ⟨A, c, rfl, hc, _⟩ := hB
  clear hb hr
  go_enter Try.func26, Try.ntmps26
  go_wp2_with (go_at_call 43; refine (clone_any _ (B + 1) l _ HB.out hl).mono ?_; rintro e w1 ⟨v', rfl, hown, hbel⟩; have H1 := Lib.hid hown; have H2 := Lib.hid hbel; clear hown hbel)
  go_ret
  exact ⟨_, rfl, H1.out, H2.out⟩

theorem pen_stored {w w1 : World} {B : Nat} {v v' : Value} {l' : List UInt8} (hb : w.heap[B]? = some (.cells #[v] 47 (0, 0)))
    (hbel : Below (B + 1) w w1) (hr' : w1.ownsRow (B + 1) 5 1 v' l'.length (l'.map bv)) : PenAt (w1.setCell ⟨B, 0, none⟩ v') B l' ∧ Below B w (w1.setCell ⟨B, 0, none⟩ v') := by
  have hb1 : w1.heap[B]? = some (.cells #[v] 47 (0, 0)) := (hbel.block _ (by omega)).trans hb
  exact ⟨⟨v', heap_setCell_same _ _ 0 _ _ _ hb1, ownsRow_setCell_below hr' (Nat.lt_succ_self B) _⟩, (hbel.mono (Nat.le_succ B)).setCell (Nat.le_refl B) _⟩
theorem pen_app {l : List UInt8} {m : List UInt8} {w : World} {b : Nat} {v : Value} (h : w.ownsRow b 5 1 v (l.length + m.length) (l.map bv ++ m.map bv)) : w.ownsRow b 5 1 v (l ++ m).length ((l ++ m).map bv) := by
  rw [List.length_append, List.map_append]; exact h
theorem penB_nil (n : Int) (w : World) : Calls Try.prog 21 #[.pointer none, .int .i64 n] w fun e w' => e = .returned (.bool false) ∧ ∃ k, w' = w.drewN k := by
  go_enter Try.func21, Try.ntmps21
  go_wp2
  go_ret
  exact ⟨rfl, 0, rfl⟩
theorem penB_not {w : World} {B : Nat} (n : Int) (h : n < 0 ∨ 255 < n) : Calls Try.prog 21 #[.pointer (some ⟨B, 0, none⟩), .int .i64 n] w fun e w' => e = .returned (.bool false) ∧ w' = w := by
  by_cases h1 : n < 0
  · go_enter Try.func21, Try.ntmps21
    go_wp2
    go_ret
    exact ⟨rfl, rfl⟩
  · have h2 : 255 < n := by omega
    have h3 : ¬ n ≤ 255 := by omega
    go_enter Try.func21, Try.ntmps21
    go_wp2
    go_ret
    exact ⟨rfl, rfl⟩
set_option maxRecDepth 4000 in
set_option maxHeartbeats 1000000 in
theorem penB_yes {w : World} {B : Nat} {l : List UInt8} (m : Nat) (hm : m < 256) (h : PenAt w B l) (hl : l.length ≤ 4294967296) :
    Calls Try.prog 21 #[.pointer (some ⟨B, 0, none⟩), .int .i64 (m : Nat)] w fun e w' => e = .returned (.bool true) ∧ PenAt w' B (l ++ [UInt8.ofNat m]) ∧ Below B w w' := by
  obtain ⟨v, hb, hr⟩ := h
  obtain ⟨i0, hi, hz0, hz1, hz2⟩ := info_parts info5
  have k0 : w.cell? ⟨B, 0, none⟩ = some v := cell_of_row _ _ 0 _ _ _ hb
  have hBl := block_lt hb
  have H1 := Lib.hid hb
  have H2 := Lib.hid hr
  have q0 : ((m : Nat) : Int) < 256 := by omega
  have q1 : ¬ ((m : Nat) : Int) < 0 := by omega
  have q2 : ((m : Nat) : Int) ≤ 255 := by omega
  have q3 : (0 : Int) ≤ ((m : Nat) : Int) := by omega
  have q4 : [Value.int .u8 (m : Nat)] = [UInt8.ofNat m].map bv := by
    simp only [List.map_cons, List.map_nil, bv_ofNat]; rw [Nat.mod_eq_of_lt hm]
  have Q4 := Lib.hid q4
  clear hb hr q4
  go_enter Try.func21, Try.ntmps21
  go_wp2_with (at_builtin; refine wpList_append_own _ rfl _ _ 22 rfl (B + 1) 5 i0 (.int .u8 0) 1 1 Try.underlying22 hi hz0 hz1 hz2 rfl (by decide) v l.length (l.map bv) rfl (H2.out.alloc _) ⟨w.heap.size, 0, none⟩ 1 1 [.int .u8 (m : Nat)] rfl rfl (World.news_of_block (heap_alloc_new w _)) (by simp [Value.oneCell']) (by unfold maxLen; omega) (by omega) (by simp; omega) ?_; intro v' w1 hown hgrow _; rw [Q4.out] at hown; have HO := Lib.hid (pen_app (m := [UInt8.ofNat m]) hown); have HB := Lib.hid (((Below.refl (B + 1) w).alloc (Nat.succ_le_of_lt hBl) _).grown hgrow (by simp; omega) (fun k hk => (H2.out.lt k hk).1)); have hb1 := (HB.out.block B (Nat.lt_succ_self B)).trans H1.out; have k1 := cell_of_row _ _ 0 _ _ _ hb1; have f1 := frozen_of_row _ _ 0 _ _ hb1; obtain ⟨A, c, rfl, _, _⟩ := bytes_of_own HO.out; clear hown hgrow hb1)
  go_ret
  exact ⟨rfl, pen_stored (l' := l ++ [UInt8.ofNat m]) H1.out HB.out (by simpa only [List.length_append, List.length_singleton] using HO.out)⟩

theorem penW_nil (n : Int) (w : World) : Calls Try.prog 22 #[.pointer none, .int .i64 n] w fun e w' => e = .returned (.bool false) ∧ ∃ k, w' = w.drewN k := by
  go_enter Try.func22, Try.ntmps22
  go_wp2_with (go_at_call 46; refine (right_cut _ _).mono ?_; rintro e w1 ⟨rfl, rfl⟩)
  go_ret
  exact ⟨rfl, 0, rfl⟩
theorem penW_not {w : World} {B : Nat} (n : Int) (h : ¬ (0 ≤ n ∧ n < 4294967296)) : Calls Try.prog 22 #[.pointer (some ⟨B, 0, none⟩), .int .i64 n] w fun e w' => e = .returned (.bool false) ∧ w' = w := by
  have hd : decide (0 ≤ n ∧ n < 4294967296) = false := by simpa using h
  have hR := fun w => right_cut n w
  rw [hd] at hR
  have HR := Lib.hid hR
  clear hR hd h
  go_enter Try.func22, Try.ntmps22
  go_wp2_with (go_at_call 46; refine (HR.out _).mono ?_; rintro e w1 ⟨rfl, rfl⟩)
  go_ret
  exact ⟨rfl, rfl⟩
set_option maxRecDepth 4000 in
set_option maxHeartbeats 1000000 in
theorem penW_yes {w : World} {B : Nat} {l : List UInt8} (m : Nat) (hm : m < 4294967296) (h : PenAt w B l) (hl : l.length ≤ 4294967296) :
    Calls Try.prog 22 #[.pointer (some ⟨B, 0, none⟩), .int .i64 (m : Nat)] w fun e w' => e = .returned (.bool true) ∧ PenAt w' B (l ++ spellB m) ∧ Below B w w' := by
  obtain ⟨v, hb, hr⟩ := h
  obtain ⟨A, c, rfl, _, _⟩ := bytes_of_own hr
  obtain ⟨i0, hi, hz0, hz1, hz2⟩ := info_parts info5
  have k0 : w.cell? ⟨B, 0, none⟩ = some (.slice A l.length c) := cell_of_row _ _ 0 _ _ _ hb
  have hBl := block_lt hb
  have H1 := Lib.hid hb
  have H2 := Lib.hid hr
  have hR := fun w => right_cut (m : Nat) w
  rw [show decide ((0 : Int) ≤ (m : Nat) ∧ ((m : Nat) : Int) < 4294967296) = true by simp; omega] at hR
  have HR := Lib.hid hR
  clear hb hr hR
  go_enter Try.func22, Try.ntmps22
  go_wp2_with (go_at_call 46; refine (HR.out _).mono ?_; rintro e w1 ⟨rfl, rfl⟩)
  go_region_law (first
    | (go_simp; go_at_call 47; refine (spell_any m hm _).mono ?_; rintro e w1 ⟨rfl, rfl⟩)
    | (refine step_append_lies _ (by rfl) _ _ _ (by rfl) (B + 1) 5 i0 (.int .u8 0) 1 1 Try.underlying22 hi hz0 hz1 hz2 rfl (by decide) (.slice A l.length c) l.length (l.map bv) (by rfl) ((H2.out.alloc _).drew) ⟨w.heap.size, 0, none⟩ 4 4 ((spellB m).map bv) (by rfl) (by rfl) (World.news_of_block (heap_alloc_new w _)) (bv_one _) (by decide) (by unfold maxLen; omega) (by omega) (by simp; omega) (w.heap.size + 1) (by simp) ?_; intro gg cap w3 hown hgrow hat hlt; have HO := Lib.hid (pen_app (m := spellB m) hown); have HB := Lib.hid ((((Below.refl (B + 1) w).alloc (Nat.succ_le_of_lt hBl) _).drew).grown hgrow (by simp; omega) (fun k hk => (H2.out.lt k hk).1)); have hb1 := (HB.out.block B (Nat.lt_succ_self B)).trans H1.out; have k1 := cell_of_row _ _ 0 _ _ _ hb1; have f1 := frozen_of_row _ _ 0 _ _ hb1; clear hown hgrow hb1 hat hlt))
  all_goals go_wp2
  all_goals go_ret
  all_goals exact ⟨rfl, pen_stored (l' := l ++ spellB m) H1.out HB.out HO.out⟩
end Go.Proofs.Ytbekkdlgibijdaa
