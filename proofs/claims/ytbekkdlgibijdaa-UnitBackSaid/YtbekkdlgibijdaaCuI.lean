/- Pen.Add; first of layer 03. -/
import Derived.Test.YtbekkdlgibijdaaCuH
import Derived.Laws.AppendOwnNone
namespace Go.Proofs.Ytbekkdlgibijdaa
open Go.RowKit

theorem add_nil (A : Option Addr) (n c : Nat) (w : World) : Calls Try.prog 24 #[.pointer none, .slice A n c] w fun e w' => (∃ v, e = .returned v) ∧ w = w' := by
  go_enter Try.func24, Try.ntmps24
  go_wp2
  go_end0
  exact ⟨⟨_, rfl⟩, rfl⟩
set_option maxRecDepth 4000 in
set_option maxHeartbeats 1000000 in
theorem add_any {w : World} {B lo : Nat} {l x : List UInt8} {xv : Value} (h : PenAt w B l) (hx : BytesAt w lo xv x) (hnil : ∀ n c, xv = .slice none n c → c = 0) (hl : l.length + x.length ≤ 4294967296) :
    Calls Try.prog 24 #[.pointer (some ⟨B, 0, none⟩), xv] w fun e w' => (∃ v, e = .returned v) ∧ PenAt w' B (l ++ x) ∧ Below B w w' := by
  obtain ⟨v, hb, hr⟩ := h
  obtain ⟨i0, hi, hz0, hz1, hz2⟩ := info_parts info5
  have k0 : w.cell? ⟨B, 0, none⟩ = some v := cell_of_row _ _ 0 _ _ _ hb
  have f0 := frozen_of_row _ _ 0 _ _ hb
  have hBl := block_lt hb
  have H1 := Lib.hid hb
  have H2 := Lib.hid hr
  obtain ⟨A, c, rfl, hc, g, off, hA, hxx⟩ := hx.cell
  cases A with
  | none =>
    obtain rfl : x = [] := by
      rcases hA with h | h
      · exact h
      · cases h
    obtain ⟨A1, c1, rfl, _, _⟩ := bytes_of_own hr
    obtain rfl := hnil _ _ rfl
    clear hnil hb hr hx hxx hA hc
    go_enter Try.func24, Try.ntmps24
    go_wp2_with (at_builtin; refine wpList_append_own_none rfl _ _ 22 rfl (B + 1) 5 i0 1 Try.underlying22 hi (.slice A1 l.length c1) l.length (l.map bv) rfl H2.out rfl ?_)
    go_end0
    refine ⟨⟨_, rfl⟩, ?_⟩
    rw [List.append_nil]
    exact pen_stored H1.out (Below.refl _ w) H2.out
  | some ad =>
    have HN := Lib.hid (news_at hA rfl hxx)
    clear hnil hb hr hx hxx hA
    go_enter Try.func24, Try.ntmps24
    go_wp2_with (at_builtin; refine wpList_append_own _ rfl _ _ 22 rfl (B + 1) 5 i0 (.int .u8 0) 1 1 Try.underlying22 hi hz0 hz1 hz2 rfl (by decide) v l.length (l.map bv) rfl H2.out ad x.length c (x.map bv) rfl (by simp) HN.out (bv_one x) (by unfold maxLen; omega) (by omega) (by omega) ?_; intro v' w1 hown hgrow _; have HO := Lib.hid (pen_app (m := x) hown); have HB := Lib.hid ((Below.refl (B + 1) w).grown hgrow (by omega) (fun k hk => (H2.out.lt k hk).1)); have hb1 := (HB.out.block B (Nat.lt_succ_self B)).trans H1.out; have k1 := cell_of_row _ _ 0 _ _ _ hb1; have f1 := frozen_of_row _ _ 0 _ _ hb1; obtain ⟨A1, c1, rfl, _, _⟩ := bytes_of_own HO.out; clear hown hgrow hb1)
    go_end0
    exact ⟨⟨_, rfl⟩, pen_stored (l' := l ++ x) H1.out HB.out (by simpa only [List.length_append] using HO.out)⟩
end Go.Proofs.Ytbekkdlgibijdaa
