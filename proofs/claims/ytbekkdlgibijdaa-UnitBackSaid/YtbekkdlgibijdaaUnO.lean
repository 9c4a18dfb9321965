/- The contract of the document's Same. -/
import Derived.Test.YtbekkdlgibijdaaUnN
namespace Go.Proofs.Ytbekkdlgibijdaa
open Go.RowKit

abbrev US := List (Int × List UInt8)
/-- A slice of units that reads as these. -/
def SameRow (w : World) (A : Option Addr) (us : US) : Prop :=
  ∃ g off, (us = [] ∨ A = some ⟨g, off, none⟩) ∧ ∀ i (hi : i < us.length), w.cell? ⟨g, off + i * 2, none⟩ = some (.int .i64 us[i].1) ∧ ∃ bs, w.cell? ⟨g, off + i * 2 + 1, none⟩ = some bs ∧ BytesR w bs us[i].2
theorem SameRow.later {w w' : World} {A : Option Addr} {us : US} (h : SameRow w A us) (hb : Below w.heap.size w w') : SameRow w' A us := by
  obtain ⟨g, off, hA, h⟩ := h
  refine ⟨g, off, hA, fun i hi => ?_⟩
  obtain ⟨h0, bs, h1, h2⟩ := h i hi
  exact ⟨cell_later h0 hb, bs, cell_later h1 hb, h2.later hb⟩
theorem same_list {us vs : US} (hl : us.length = vs.length) (h : ∀ i (hi : i < us.length) (hj : i < vs.length), us[i].1 = vs[i].1 ∧ us[i].2 = vs[i].2) : us = vs :=
  List.ext_getElem hl fun i hi hj => Prod.ext (h i hi hj).1 (h i hi hj).2

set_option maxRecDepth 20000 in
set_option maxHeartbeats 4000000 in
theorem same_any (w : World) (A B : Option Addr) (c d : Nat) (us vs : US) (ha : SameRow w A us) (hb : SameRow w B vs) (hl : (us.length : Int) ≤ 9223372036854775807) (_ : (vs.length : Int) ≤ 9223372036854775807) :
    Calls Try.prog 38 #[.slice A us.length c, .slice B vs.length d] w fun e w' => e = .returned (.bool (decide (us = vs))) ∧ Below w.heap.size w w' := by
  obtain ⟨r, hr⟩ : ∃ r, r = decide (us = vs) := ⟨_, rfl⟩
  rw [← hr]
  have HR := Lib.hid hr
  clear hr
  by_cases hlen : us.length = vs.length
  · obtain ⟨g, off, hA, hx⟩ := ha
    obtain ⟨g2, off2, hB, hy⟩ := hb
    have HX := Lib.hid hx
    have HY := Lib.hid hy
    have HLN := Lib.hid hlen
    obtain ⟨n, hn⟩ : ∃ n, n = us.length := ⟨_, rfl⟩
    rw [← hlen, ← hn]
    have HN := Lib.hid hn
    have HA := Lib.hid hA
    have HB := Lib.hid hB
    have hn9 : (n : Int) ≤ 9223372036854775807 := by omega
    clear hx hy hlen hA hB hl hn
    go_enter Try.func38, Try.ntmps38
    go_wp2_with fail
    go_loopw [13] (fun i wr => ∃ k : Nat, k ≤ n ∧ i = .int .i64 k ∧ Hid (∀ j (hi : j < us.length) (hj : j < vs.length), j < k → us[j].1 = vs[j].1 ∧ us[j].2 = vs[j].2) ∧ Hid (Below w.heap.size w wr)) (fun i _ => (n - intOf i).toNat)
    case atStart => exact ⟨0, by omega, rfl, Lib.hid (fun j _ _ h => by omega), Lib.hid (Below.refl _ _)⟩
    case round =>
      obtain ⟨k, hk, rfl, hs, hBl⟩ := hrel
      by_cases hlt : k < n
      · have hku : k < us.length := by rw [← HN.out]; exact hlt
        have hkv : k < vs.length := by rw [← HLN.out]; exact hku
        obtain rfl : A = some ⟨g, off, none⟩ := by
          rcases HA.out with h | h
          · rw [h] at hku; simp at hku
          · exact h
        obtain rfl : B = some ⟨g2, off2, none⟩ := by
          rcases HB.out with h | h
          · rw [h] at hkv; simp at hkv
          · exact h
        obtain ⟨x0, bx, x1, x2⟩ := HX.out k hku
        obtain ⟨y0, by_, y1, y2⟩ := HY.out k hkv
        have e0 := cell_later x0 hBl.out
        have e1 := cell_later x1 hBl.out
        have f0 := cell_later y0 hBl.out
        have f1 := cell_later y1 hBl.out
        have s1 := fun q => ((x2.later hBl.out).later (below_drawn _ wr q)).str
        have s2 := fun q => ((y2.later hBl.out).later (below_drawn _ wr q)).str
        obtain ⟨Ax, mx, cx, hbx⟩ : ∃ A m c, bx = .slice A m c := by obtain ⟨A, c, h, _⟩ := x2; exact ⟨_, _, _, h⟩
        obtain ⟨Ay, my, cy, hby⟩ : ∃ A m c, by_ = .slice A m c := by obtain ⟨A, c, h, _⟩ := y2; exact ⟨_, _, _, h⟩
        subst hbx
        subst hby
        obtain ⟨p, hp⟩ : ∃ p, p = us[k] := ⟨_, rfl⟩
        obtain ⟨q, hq⟩ : ∃ q, q = vs[k] := ⟨_, rfl⟩
        rw [← hp] at e0 s1
        rw [← hq] at f0 s2
        obtain ⟨c1, l1⟩ := p
        obtain ⟨c2, l2⟩ := q
        have HP := Lib.hid hp
        have HQ := Lib.hid hq
        have i1 : (0 : Int) ≤ (k : Int) := by omega
        have i2 : (k : Int) < (n : Int) := by omega
        dsimp only at *
        clear x0 x1 x2 y0 y1 y2 hp hq
        by_cases hc : c1 = c2
        · subst hc
          have hc1 : (c1 != c1) = false := by simp
          by_cases hd : l1 = l2
          · subst hd
            have HS2 : Hid (∀ j (hi : j < us.length) (hj : j < vs.length), j < k + 1 → us[j].1 = vs[j].1 ∧ us[j].2 = vs[j].2) := Lib.hid (fun j hi hj h => by
              by_cases hjk : j = k
              · subst hjk; exact ⟨by rw [← HP.out, ← HQ.out], by rw [← HP.out, ← HQ.out]⟩
              · exact hs.out j hi hj (by omega))
            go_wp2_with fail
            go_quiet (fail)
            go_wp2
            go_roundw
            case rel => exact ⟨k + 1, by omega, by go_num, HS2, Lib.hid (hBl.out.trans (below_drawn _ _ _))⟩
            case measure => simp [intOf]; omega
          · obtain rfl : r = false := by rw [HR.out]; exact decide_eq_false (fun h => hd (by have : us[k] = vs[k] := by subst h; rfl
                                                                                             rw [← HP.out, ← HQ.out] at this; exact congrArg Prod.snd this))
            have hd1 : (l1 == l2) = false := by simp [hd]
            have hd2 : (l1 != l2) = true := by simp [hd]
            go_wp2_with fail
            go_quiet (fail)
            clear hd
            go_wp2
            go_ret
            exact ⟨rfl, hBl.out.trans (below_drawn _ _ _)⟩
        · obtain rfl : r = false := by rw [HR.out]; exact decide_eq_false (fun h => hc (by have : us[k] = vs[k] := by subst h; rfl
                                                                                           rw [← HP.out, ← HQ.out] at this; exact congrArg Prod.fst this))
          have hc1 : (c1 != c2) = true := by simp [hc]
          clear hc
          go_wp2_with fail
          go_quiet (fail)
          go_wp2
          go_ret
          exact ⟨rfl, hBl.out.trans (below_drawn _ _ _)⟩
      · obtain rfl : k = n := by omega
        obtain rfl : r = true := by
          rw [HR.out]
          exact decide_eq_true (same_list HLN.out (fun j hi hj => hs.out j hi hj (by rw [HN.out]; exact hi)))
        go_wp2
        go_ret
        exact ⟨rfl, hBl.out⟩
  · obtain rfl : r = false := by rw [HR.out]; exact decide_eq_false (fun h => hlen (by rw [h]))
    have h0 : ((us.length : Int) != (vs.length : Int)) = true := by simp; omega
    clear ha hb hlen
    go_enter Try.func38, Try.ntmps38
    go_wp2
    go_ret
    exact ⟨rfl, Below.refl _ _⟩
end Go.Proofs.Ytbekkdlgibijdaa
