/- Units that came in; units joined, plainly; the contract of Join. -/
import Derived.Test.YtbekkdlgibijdaaUnM
namespace Go.Proofs.Ytbekkdlgibijdaa
open Go.RowKit

/-- one unit: its code, its slice, the bytes of it -/
structure InfX where
  c : Int
  bs : Value
  l : List UInt8
def InfX.ok (w : World) (q : InfX) : Prop := BytesC w q.bs q.l ∧ -9223372036854775808 ≤ q.c ∧ q.c ≤ 9223372036854775807 ∧ q.l.length ≤ 140737488355328
def InfoRow (w : World) (a : Option Addr) (len : Nat) (X : Nat → InfX) : Prop :=
  (len : Int) ≤ 9223372036854775807 ∧ ∃ g off, (len = 0 ∨ a = some ⟨g, off, none⟩) ∧ ∀ i, i < len → w.cell? ⟨g, off + i * 2, none⟩ = some (.int .i64 (X i).c) ∧ w.cell? ⟨g, off + i * 2 + 1, none⟩ = some (X i).bs ∧ (X i).ok w
theorem InfoRow.later {w w' : World} {a : Option Addr} {len : Nat} {X : Nat → InfX} (h : InfoRow w a len X) (hb : Below w.heap.size w w') : InfoRow w' a len X := by
  obtain ⟨h1, g, off, h2, h3⟩ := h
  refine ⟨h1, g, off, h2, fun i hi => ?_⟩
  obtain ⟨c0, c1, c2, c3⟩ := h3 i hi
  exact ⟨cell_later c0 hb, cell_later c1 hb, c2.later hb, c3⟩

/-! Units joined. -/
def accU (U : Nat → Int × List UInt8) : Nat → List UInt8 × Nat
  | 0 => ([], 0)
  | k + 1 => (((accU U k).1 ++ unitB (U k).1.toNat (13 + (U k).2.length) (accU U k).2) ++ (U k).2, 13 + (U k).2.length)
def okJ (U : Nat → Int × List UInt8) (k : Nat) : Prop := knownI (U k).1 = true ∧ (U k).1 ≠ 16 ∧ 13 + (U k).2.length + (accU U k).1.length ≤ 2147483634
def outJ (U : Nat → Int × List UInt8) (n : Nat) : List UInt8 := (accU U n).1 ++ unitB 16 0 (accU U n).2
theorem acc_len (U : Nat → Int × List UInt8) (k : Nat) : (accU U (k + 1)).1.length = (accU U k).1.length + 13 + (U k).2.length := by
  show (((accU U k).1 ++ unitB (U k).1.toNat (13 + (U k).2.length) (accU U k).2) ++ (U k).2).length = _
  rw [List.length_append, List.length_append, unitB_len]
theorem acc_le {U : Nat → Int × List UInt8} {k : Nat} (h : ∀ j, j < k → okJ U j) : (accU U k).1.length ≤ 2147483634 ∧ (accU U k).2 ≤ 2147483634 := by
  cases k with
  | zero => exact ⟨Nat.zero_le _, Nat.zero_le _⟩
  | succ k =>
    obtain ⟨_, _, h3⟩ := h k (Nat.lt_succ_self k)
    rw [acc_len]
    refine ⟨by omega, ?_⟩
    show 13 + (U k).2.length ≤ _
    omega
def uOf (X : Nat → InfX) (i : Nat) : Int × List UInt8 := ((X i).c, (X i).l)
/-- What Join leaves. -/
def JoinPost (U : Nat → Int × List UInt8) (n : Nat) (w : World) (e : Ending) (w' : World) : Prop :=
  ((∀ k, k < n → okJ U k) ∧ ∃ v, e = .returned (.tuple #[v, .int .i64 0]) ∧ w'.ownsRow w.heap.size 5 1 v (outJ U n).length ((outJ U n).map bv) ∧ Below w.heap.size w w') ∨
  ((∃ k, k < n ∧ (∀ j, j < k → okJ U j) ∧ ¬ okJ U k) ∧ e = .returned (.tuple #[.slice none 0 0, .int .i64 2]) ∧ Below w.heap.size w w')
theorem known_lt {c : Int} (h : knownI c = true) : 0 ≤ c ∧ c < 256 := by
  unfold knownI at h
  simp at h
  omega

set_option maxRecDepth 20000 in
set_option maxHeartbeats 4000000 in
theorem join_any (w : World) (a : Option Addr) (len cap : Nat) (X : Nat → InfX) (hs : InfoRow w a len X) :
    Calls Try.prog 41 #[.slice a len cap] w (JoinPost (uOf X) len w) := by
  obtain ⟨hlen, g, off, ha, hcell⟩ := hs
  have HS := Lib.hid hcell
  have HA := Lib.hid ha
  clear ha hcell
  have hPN := Lib.hid (pen_new w)
  have hB0 := Lib.hid ((Below.refl w.heap.size w).alloc (Nat.le_refl _) (.cells #[.slice none 0 0] 47))
  go_enter Try.func41, Try.ntmps41
  go_wp2_with fail
  go_loopw [5, 13] (fun s i wr => ∃ (k pv : Nat), k ≤ len ∧ i = .int .i64 k ∧ s = .int .i64 (pv : Nat) ∧ Hid (∀ j, j < k → okJ (uOf X) j) ∧ Hid (pv = (accU (uOf X) k).2) ∧ Hid (PenAt wr w.heap.size (accU (uOf X) k).1) ∧ Hid (Below w.heap.size w wr)) (fun _ i _ => (len - intOf i).toNat)
  case atStart => exact ⟨0, 0, by omega, rfl, rfl, Lib.hid (fun j hj => by omega), Lib.hid rfl, hPN, hB0⟩
  case round =>
    obtain ⟨k, pv, hk, rfl, rfl, hok, hpv, hP, hB⟩ := hrel
    by_cases hlt : k < len
    · obtain rfl : a = some ⟨g, off, none⟩ := by
        rcases HA.out with h | h
        · omega
        · exact h
      obtain ⟨d0, d1, hq⟩ := HS.out k hlt
      have e0 := cell_later d0 hB.out
      have e1 := cell_later d1 hB.out
      have i1 : (0 : Int) ≤ (k : Int) := by omega
      have i2 : (k : Int) < (len : Int) := by omega
      obtain ⟨⟨c, bs, l⟩, hX⟩ : ∃ q, q = X k := ⟨_, rfl⟩
      rw [← hX] at e0 e1 hq
      have hU : uOf X k = (c, l) := by unfold uOf; rw [← hX]
      have HU := Lib.hid hU
      clear d0 d1 hX hU
      obtain ⟨hbs, k0, k1, k2⟩ := hq
      have HBS := Lib.hid hbs
      obtain ⟨A, cp, hbv, hc, _, _⟩ := hbs
      dsimp only at *
      subst hbv
      have hk2 : (l.length : Int) ≤ 140737488355328 := by omega
      obtain ⟨hacc, hpvl⟩ := acc_le hok.out
      rw [← hpv.out] at hpvl
      obtain ⟨L, hL⟩ : ∃ L, L = (accU (uOf X) k).1 := ⟨_, rfl⟩
      have hP' := hP.out
      rw [← hL] at hP' hacc
      have HLE := Lib.hid hL
      have hO := heap_alloc_new wr (.cells #[.int .i64 c, .slice A l.length cp] 66)
      have hlt' := hP'.lt
      have HP1 := Lib.hid (hP'.later ((Below.refl _ wr).alloc (Nat.le_refl _) (.cells #[.int .i64 c, .slice A l.length cp] 66)))
      have HB1 := Lib.hid (hB.out.alloc hB.out.size (.cells #[.int .i64 c, .slice A l.length cp] 66))
      have HOK : Hid (okJ (uOf X) k ↔ knownI c = true ∧ c ≠ 16 ∧ 13 + l.length + L.length ≤ 2147483634) := Lib.hid (by unfold okJ; rw [HU.out, ← HLE.out])
      clear hL hP'
      go_upto_region 7 with fail
      obtain ⟨ob, hob⟩ : ∃ ob, ob = wr.heap.size := ⟨_, rfl⟩
      obtain ⟨wy, hwy⟩ : ∃ wy, wy = wr.alloc (.cells #[.int .i64 c, .slice A l.length cp] 66) := ⟨_, rfl⟩
      rw [← hob] at hO ⊢
      rw [← hwy] at hO HP1 HB1 ⊢
      have HO := Lib.hid hO
      have x0 := cell_of_row _ _ 0 _ _ _ hO
      have HQ := Lib.hid (HBS.out.later HB1.out)
      have HOB := Lib.hid (show w.heap.size < ob by omega)
      clear hO hob hwy e0 e1 hlt'
      have hKn := fun V => known_any c k0 k1 V
      cases hkn : knownI c with
      | false =>
        rw [hkn] at hKn
        have HKN := Lib.hid hKn
        have HNO := Lib.hid (show ¬ okJ (uOf X) k from fun h => by have := (HOK.out.1 h).1; rw [hkn] at this; cases this)
        clear hKn hkn
        go_wp2_with (go_at_call 29; refine (HKN.out _).mono ?_; rintro e w2 ⟨rfl, rfl⟩)
        go_ret2
        exact .inr ⟨⟨k, hlt, hok.out, HNO.out⟩, rfl, HB1.out⟩
      | true =>
        rw [hkn] at hKn
        have HKN := Lib.hid hKn
        obtain ⟨hc0, hc1⟩ := known_lt hkn
        obtain ⟨cn, rfl⟩ : ∃ cn : Nat, c = (cn : Int) := ⟨c.toNat, by omega⟩
        by_cases h16 : cn = 16
        · subst h16
          have HNO := Lib.hid (show ¬ okJ (uOf X) k from fun h => (HOK.out.1 h).2.1 rfl)
          clear hKn hkn
          go_wp2_with (go_at_call 29; refine (HKN.out _).mono ?_; rintro e w2 ⟨rfl, rfl⟩)
          go_ret2
          exact .inr ⟨⟨k, hlt, hok.out, HNO.out⟩, rfl, HB1.out⟩
        have h16b : ((cn : Int) == 16) = false := by simp; omega
        have hl3 := Lib.hid (show L.length ≤ 4294967296 by omega)
        have hl4 : (L.length : Int) ≤ 2147483634 := by omega
        by_cases hbig : 13 + l.length + L.length ≤ 2147483634
        · have hbg : ¬ (2147483647 : Int) - (L.length : Int) - 13 < 13 + (l.length : Int) := by omega
          have HYES := Lib.hid (HOK.out.2 ⟨hkn, by omega, hbig⟩)
          clear hKn hkn h16
          go_wp2_with (first
            | (go_at_call 29; refine (HKN.out _).mono ?_; rintro e w2 ⟨rfl, rfl⟩)
            | (go_at_call 27; refine (len_any HP1.out).mono ?_; rintro e w2 ⟨rfl, rfl⟩))
          rw [show (13 : Int) + (l.length : Int) = ((13 + l.length : Nat) : Int) by omega]
          refine (put_any cn (13 + l.length) pv HP1.out (by omega) (by omega) (by omega) (by omega)).mono ?_
          rintro e w3 ⟨⟨v3, rfl⟩, hp3, hb3, ht3⟩
          have HP3 := Lib.hid hp3
          have HB3 := Lib.hid (HB1.out.trans hb3)
          have hO3 := ht3 _ _ _ _ HO.out (by decide) (by decide)
          have y1 := cell_of_row _ _ 1 _ _ _ hO3
          have HQ3 := Lib.hid (HBS.out.later HB3.out)
          have HM3 := Lib.hid (show (L ++ unitB cn (13 + l.length) pv).length + l.length ≤ 4294967296 by rw [List.length_append, unitB_len]; omega)
          clear hp3 hb3 ht3 x0 hO3
          go_wp2_with fail
          refine (add_typed HP3.out HQ3.out HM3.out).mono ?_
          rintro e w4 ⟨⟨v4, rfl⟩, hp4, hb4, _⟩
          have HP4 := Lib.hid hp4
          have HB4 := Lib.hid (HB3.out.trans hb4)
          clear hp4 hb4 y1
          go_wp2
          have hac : accU (uOf X) (k + 1) = ((L ++ unitB cn (13 + l.length) pv) ++ l, 13 + l.length) := by
            show (((accU (uOf X) k).1 ++ unitB (uOf X k).1.toNat (13 + (uOf X k).2.length) (accU (uOf X) k).2) ++ (uOf X k).2, 13 + (uOf X k).2.length) = _
            rw [HU.out, ← HLE.out, ← hpv.out]
            rfl
          go_roundw
          case rel => exact ⟨k + 1, 13 + l.length, by omega, by go_num, rfl, Lib.hid (fun j hj => by
            by_cases hjk : j = k
            · rw [hjk]; exact HYES.out
            · exact hok.out j (by omega)), Lib.hid (by rw [hac]), Lib.hid (by rw [hac]; exact HP4.out), HB4⟩
          case measure => simp [intOf]; omega
        · have hbg : (2147483647 : Int) - (L.length : Int) - 13 < 13 + (l.length : Int) := by omega
          have HNO := Lib.hid (show ¬ okJ (uOf X) k from fun h => hbig (HOK.out.1 h).2.2)
          clear hKn hkn h16
          go_wp2_with (first
            | (go_at_call 29; refine (HKN.out _).mono ?_; rintro e w2 ⟨rfl, rfl⟩)
            | (go_at_call 27; refine (len_any HP1.out).mono ?_; rintro e w2 ⟨rfl, rfl⟩))
          go_ret2
          exact .inr ⟨⟨k, hlt, hok.out, HNO.out⟩, rfl, HB1.out⟩
    · obtain rfl : k = len := by omega
      obtain ⟨hacc, hpvl⟩ := acc_le hok.out
      rw [← hpv.out] at hpvl
      obtain ⟨L, hL⟩ : ∃ L, L = (accU (uOf X) k).1 := ⟨_, rfl⟩
      have hP' := hP.out
      rw [← hL] at hP' hacc
      have hout : outJ (uOf X) k = L ++ unitB 16 0 pv := by unfold outJ; rw [← hL, ← hpv.out]
      have HOUT := Lib.hid hout
      have HP1 := Lib.hid hP'
      clear hL hP' hout
      go_wp2_with fail
      refine (put_any 16 0 pv HP1.out (by omega) (by decide) (by decide) (by omega)).mono ?_
      rintro e w3 ⟨⟨v3, rfl⟩, hp3, hb3, _⟩
      have HP3 := Lib.hid hp3
      have HB3 := Lib.hid (hB.out.trans hb3)
      have HM3 := Lib.hid (show (L ++ unitB 16 0 pv).length ≤ 4294967296 by rw [List.length_append, unitB_len]; omega)
      clear hp3 hb3
      go_wp2_with fail
      refine (pbytes_any HP3.out HM3.out).mono ?_
      rintro e w4 ⟨v4, rfl, hown, hb4⟩
      have HW4 := Lib.hid (And.intro hown hb4)
      clear hown hb4
      go_wp2
      go_ret2
      refine .inl ⟨hok.out, v4, rfl, ?_, HB3.out.trans (HW4.out.2.mono HB3.out.size)⟩
      rw [HOUT.out]
      exact own_mono HW4.out.1 HB3.out.size
end Go.Proofs.Ytbekkdlgibijdaa
