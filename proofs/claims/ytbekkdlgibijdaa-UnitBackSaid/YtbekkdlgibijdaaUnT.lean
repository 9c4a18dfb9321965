/- The document's Join. -/
import Derived.Test.YtbekkdlgibijdaaUnS
import Derived.Deep.RegionHeldLaw
import Derived.Deep.RegionWith
import Derived.Deep.DeepCutAuto
namespace Go.Proofs.Ytbekkdlgibijdaa
open Go.RowKit

/-- a unit that may be -/
def mayJ (U : Nat → Int × List UInt8) (k : Nat) : Prop := knownI (U k).1 = true ∧ (U k).1 ≠ 16
/-- What the document's Join leaves. -/
def RJoinPost (U : Nat → Int × List UInt8) (n : Nat) (w : World) (e : Ending) (w' : World) : Prop :=
  ((∀ k, k < n → mayJ U k) ∧ ∃ v, e = .returned (.tuple #[v, .bool true]) ∧ BytesR w' v (outJ U n) ∧ Below w.heap.size w w') ∨
  ((∃ k, k < n ∧ ¬ mayJ U k) ∧ e = .returned (.tuple #[.slice none 0 0, .bool false]) ∧ Below w.heap.size w w')
theorem str_app (a b : List UInt8) : (⟨a.toArray⟩ : ByteArray) ++ ⟨b.toArray⟩ = ⟨(a ++ b).toArray⟩ := by
  apply ByteArray.ext
  simp
theorem below_step {W V V' : World} (h : Below W.heap.size W V) (k : Below V.heap.size V V') : Below W.heap.size W V' := h.trans (k.mono h.size)
theorem one_byte (w : World) (m : Nat) (hm : m < 256) : BytesAt (w.alloc (.cells #[.int .u8 (m : Nat)] 5)) 0 (.slice (some ⟨w.heap.size, 0, none⟩) 1 1) [UInt8.ofNat m] := by
  refine ⟨_, 1, rfl, Nat.le_refl _, .inr ⟨w.heap.size, 0, _, _, rfl, Nat.zero_le _, heap_alloc_new _ _, fun j hj => ?_⟩⟩
  have hj : j < 1 := hj
  match j, hj with
  | 0, _ => simp [bv_ofNat]; omega
/-- []byte(s) -/
theorem str_bytes (w : World) (l : List UInt8) : ∃ c w', (convert 9 22 (.string ⟨l.toArray⟩)).run Try.prog w = .ok (.slice (some ⟨w.heap.size, 0, none⟩) l.length c) w' ∧ BytesR w' (.slice (some ⟨w.heap.size, 0, none⟩) l.length c) l ∧ Below w.heap.size w w' := by
  have h := run_bytes_of_string (P := Try.prog) w 9 22 5 ⟨l.toArray⟩ Try.underlying9 Try.underlying22 Try.underlying5
  have hz : ByteArray.size ⟨l.toArray⟩ = l.length := by simp [ByteArray.size]
  rw [hz] at h
  refine ⟨_, _, h, ⟨_, _, rfl, grownCap_ge _ _ _ _, w.heap.size, 0, .inr rfl, fun j hj => ?_⟩, (Below.refl w.heap.size w).drew.alloc (Nat.le_refl _) _⟩
  have hh : (w.drew.alloc (.cells (bytesRow ⟨l.toArray⟩ (grownCap w l.length 0 5)) 5 ((bytesRow ⟨l.toArray⟩ (grownCap w l.length 0 5)).size, (bytesRow ⟨l.toArray⟩ (grownCap w l.length 0 5)).size + 1))).heap[w.heap.size]? = some (.cells (bytesRow ⟨l.toArray⟩ (grownCap w l.length 0 5)) 5 ((bytesRow ⟨l.toArray⟩ (grownCap w l.length 0 5)).size, (bytesRow ⟨l.toArray⟩ (grownCap w l.length 0 5)).size + 1)) := heap_alloc_new w.drew _
  rw [cell_of_row _ _ _ _ _ _ hh]
  unfold bytesRow
  rw [Nat.zero_add, Array.getElem?_append_left (by simpa using hj)]
  simp [bv, hj]
set_option maxRecDepth 20000 in
set_option maxHeartbeats 4000000 in
theorem refJoin_any (w : World) (a : Option Addr) (len cap : Nat) (X : Nat → InfX) (hs : InfoRow w a len X) (hb : ∀ k, k ≤ len → (accU (uOf X) k).1.length ≤ 1000000) :
    Calls Try.prog 42 #[.slice a len cap] w (RJoinPost (uOf X) len w) := by
  obtain ⟨hlen, g, off, ha, hcell⟩ := hs
  have HS := Lib.hid hcell
  have HA := Lib.hid ha
  have HBD := Lib.hid hb
  clear ha hcell hb
  go_enter Try.func42, Try.ntmps42
  go_wp2_with fail
  go_loopw [4, 5, 11] (fun sv pvv i wr => ∃ (k pv : Nat) (L : List UInt8), k ≤ len ∧ i = .int .i64 k ∧ pvv = .int .i64 (pv : Nat) ∧ sv = .string ⟨L.toArray⟩ ∧ Hid (∀ j, j < k → mayJ (uOf X) j) ∧ Hid (pv = (accU (uOf X) k).2 ∧ L = (accU (uOf X) k).1) ∧ Hid (pv ≤ 1000000) ∧ Hid (Below w.heap.size w wr)) (fun _ _ i _ => (len - intOf i).toNat)
  case atStart => exact ⟨0, 0, [], by omega, rfl, rfl, rfl, Lib.hid (fun j hj => by omega), Lib.hid ⟨rfl, rfl⟩, Lib.hid (by omega), Lib.hid (Below.refl _ _)⟩
  case round =>
    obtain ⟨k, pv, L, hk, rfl, rfl, rfl, hok, hpl, hpv, hB⟩ := hrel
    by_cases hlt : k < len
    · obtain rfl : a = some ⟨g, off, none⟩ := by
        rcases HA.out with h | h
        · omega
        · exact h
      obtain ⟨d0, d1, hq⟩ := HS.out k hlt
      have e0 := cell_later d0 hB.out
      have e1 := cell_later d1 hB.out
      have i1 : (0 : Int) ≤ (k : Int) := by omega
      have i2 : (k : Int) < (len : Int) := by omega
      have hl0 := HBD.out k hk
      have hl1 := HBD.out (k + 1) hlt
      rw [acc_len] at hl1
      obtain ⟨⟨c, bs, l⟩, hX⟩ : ∃ q, q = X k := ⟨_, rfl⟩
      rw [← hX] at e0 e1 hq
      have hU : uOf X k = (c, l) := by unfold uOf; rw [← hX]
      rw [hU, ← hpl.out.2] at hl1
      rw [← hpl.out.2] at hl0
      have HU := Lib.hid hU
      clear d0 d1 hX hU
      obtain ⟨hbs, k0, k1, k2⟩ := hq
      have HBS := Lib.hid hbs
      obtain ⟨A, cp, hbv, hc, _, _⟩ := hbs
      dsimp only at *
      subst hbv
      have hk2 : (l.length : Int) ≤ 1000000 := by omega
      have hLl : (L.length : Int) ≤ 1000000 := by omega
      have hO := heap_alloc_new wr (.cells #[.int .i64 c, .slice A l.length cp] 66)
      have HB1 := Lib.hid (hB.out.alloc hB.out.size (.cells #[.int .i64 c, .slice A l.length cp] 66))
      clear k2 hl0
      go_upto_region 6 with fail
      obtain ⟨ob, hob⟩ : ∃ ob, ob = wr.heap.size := ⟨_, rfl⟩
      obtain ⟨wy, hwy⟩ : ∃ wy, wy = wr.alloc (.cells #[.int .i64 c, .slice A l.length cp] 66) := ⟨_, rfl⟩
      rw [← hob] at hO ⊢
      rw [← hwy] at hO HB1 ⊢
      have HO := Lib.hid hO
      have x0 := cell_of_row _ _ 0 _ _ _ hO
      clear hO hob hwy e0 e1
      have hKn := fun V => refKnown_any c V
      cases hkn : knownI c with
      | false =>
        rw [hkn] at hKn
        have HKN := Lib.hid hKn
        have HNO := Lib.hid (show ¬ mayJ (uOf X) k from fun h => by have := h.1; rw [HU.out] at this; rw [hkn] at this; cases this)
        clear hKn hkn
        go_wp2_with (go_at_call 30; refine (HKN.out _).mono ?_; rintro e w2 ⟨rfl, hb2⟩; have HB2 := Lib.hid (HB1.out.trans (hb2.mono HB1.out.size)); clear hb2)
        go_ret2
        exact .inr ⟨⟨k, hlt, HNO.out⟩, rfl, HB2.out⟩
      | true =>
        rw [hkn] at hKn
        have HKN := Lib.hid hKn
        obtain ⟨hc0, hc1⟩ := known_lt hkn
        obtain ⟨cn, rfl⟩ : ∃ cn : Nat, c = (cn : Int) := ⟨c.toNat, by omega⟩
        by_cases h16 : cn = 16
        · subst h16
          have HNO := Lib.hid (show ¬ mayJ (uOf X) k from fun h => h.2 (by rw [HU.out]; rfl))
          clear hKn hkn
          go_wp2_with (go_at_call 30; refine (HKN.out _).mono ?_; rintro e w2 ⟨rfl, hb2⟩; have HB2 := Lib.hid (HB1.out.trans (hb2.mono HB1.out.size)); have y0 := cell_of_row _ _ 0 _ _ _ (block_later HO.out hb2); clear hb2 x0)
          go_ret2
          exact .inr ⟨⟨k, hlt, HNO.out⟩, rfl, HB2.out⟩
        have h16b : ((cn : Int) == 16) = false := by simp; omega
        have HYES := Lib.hid (show mayJ (uOf X) k from ⟨by rw [HU.out]; exact hkn, by rw [HU.out]; show (cn : Int) ≠ 16; omega⟩)
        clear hKn hkn h16
        go_upto_region 9 with (go_at_call 30; refine (HKN.out _).mono ?_; rintro e w2 ⟨rfl, hb2⟩; have HB2 := Lib.hid (HB1.out.trans (hb2.mono HB1.out.size)); have y0 := cell_of_row _ _ 0 _ _ _ (block_later HO.out hb2); have y1 := cell_of_row _ _ 1 _ _ _ (block_later HO.out hb2); clear hb2 x0)
        obtain ⟨N, hN⟩ : ∃ N, N = 13 + l.length := ⟨_, rfl⟩
        rw [show (13 : Int) + (l.length : Int) = ((N : Nat) : Int) by omega]
        obtain ⟨S1, hS1⟩ : ∃ x, x = [UInt8.ofNat cn] := ⟨_, rfl⟩
        obtain ⟨W1, hW1⟩ : ∃ x, x = spellB N := ⟨_, rfl⟩
        obtain ⟨W2, hW2⟩ : ∃ x, x = spellB pv := ⟨_, rfl⟩
        obtain ⟨T1, hT1⟩ : ∃ x, x = markB ++ S1 := ⟨_, rfl⟩
        obtain ⟨T2, hT2⟩ : ∃ x, x = T1 ++ W1 := ⟨_, rfl⟩
        obtain ⟨T3, hT3⟩ : ∃ x, x = T2 ++ W2 := ⟨_, rfl⟩
        obtain ⟨T4, hT4⟩ : ∃ x, x = T3 ++ l := ⟨_, rfl⟩
        obtain ⟨T5, hT5⟩ : ∃ x, x = L ++ T4 := ⟨_, rfl⟩
        have hac : accU (uOf X) (k + 1) = (T5, N) := by
          show (((accU (uOf X) k).1 ++ unitB (uOf X k).1.toNat (13 + (uOf X k).2.length) (accU (uOf X) k).2) ++ (uOf X k).2, 13 + (uOf X k).2.length) = _
          rw [HU.out, ← hpl.out.1, ← hpl.out.2, hT5, hT4, hT3, hT2, hT1, hS1, hW1, hW2, hN]
          simp [unitB]
        have HAC := Lib.hid hac
        have l1 : T1.length = 5 := by rw [hT1, hS1]; rfl
        have l2 : T2.length = 9 := by rw [hT2, List.length_append, l1, hW1]; rfl
        have l3 : T3.length = 13 := by rw [hT3, List.length_append, l2, hW2]; rfl
        have l4 : T4.length = 13 + l.length := by rw [hT4, List.length_append, l3]
        have q1 : ¬ 9223372036854775807 < 4 + S1.length := by rw [hS1]; simp
        have q2 : ¬ 9223372036854775807 < T1.length + W1.length := by rw [l1, hW1]; simp [spellB]
        have q3 : ¬ 9223372036854775807 < T2.length + W2.length := by rw [l2, hW2]; simp [spellB]
        have q4 : ¬ 9223372036854775807 < T3.length + l.length := by rw [l3]; omega
        have q5 : ¬ 9223372036854775807 < L.length + T4.length := by rw [l4]; omega
        have t1 : (⟨#[66, 66, 67, 68]⟩ : ByteArray) ++ ⟨S1.toArray⟩ = ⟨T1.toArray⟩ := by rw [hT1]; exact str_app markB S1
        have t2 : (⟨T1.toArray⟩ : ByteArray) ++ ⟨W1.toArray⟩ = ⟨T2.toArray⟩ := by rw [hT2]; exact str_app T1 W1
        have t3 : (⟨T2.toArray⟩ : ByteArray) ++ ⟨W2.toArray⟩ = ⟨T3.toArray⟩ := by rw [hT3]; exact str_app T2 W2
        have t4 : (⟨T3.toArray⟩ : ByteArray) ++ ⟨l.toArray⟩ = ⟨T4.toArray⟩ := by rw [hT4]; exact str_app T3 l
        have t5 : (⟨L.toArray⟩ : ByteArray) ++ ⟨T4.toArray⟩ = ⟨T5.toArray⟩ := by rw [hT5]; exact str_app L T4
        have hst : ∀ V : World, (convert 22 9 (.slice (some ⟨V.heap.size, 0, none⟩) 1 1)).run Try.prog (V.alloc (.cells #[.int .u8 (cn : Nat)] 5)) = .ok (.string ⟨S1.toArray⟩) (V.alloc (.cells #[.int .u8 (cn : Nat)] 5)) := fun V => by rw [hS1]; exact (one_byte V cn (by omega)).str
        have hst2 : ∀ V : World, (convert 22 9 (.slice (some ⟨V.heap.size, 0, none⟩) 1 1)).run Try.prog (V.alloc (.cells #[.int .u8 (cn : Nat)] 5)).drew = .ok (.string ⟨S1.toArray⟩) (V.alloc (.cells #[.int .u8 (cn : Nat)] 5)).drew := fun V => by rw [hS1]; exact ((one_byte V cn (by omega)).later (Below.refl _ _).drew).str
        have r0 : IntKind.u8.wrap (cn : Int) = (cn : Int) := by rw [IntKind.wrap_u8']; omega
        have HSS := Lib.hid (show ∀ V, Below w2.heap.size w2 V → V.cell? ⟨ob, 0, none⟩ = some (.int .i64 (cn : Nat)) ∧ V.cell? ⟨ob, 1, none⟩ = some (.slice A l.length cp) ∧ (convert 22 9 (.slice A l.length cp)).run Try.prog V = .ok (.string ⟨l.toArray⟩) V from fun V hV =>
          ⟨cell_later y0 hV, cell_later y1 hV, (HBS.out.later (HB2.out.trans (hV.mono HB2.out.size))).str⟩)
        have HW := Lib.hid (And.intro hW1 (And.intro hW2 hS1))
        have hcn : cn < 256 := by omega
        have hN4 : N < 4294967296 := by omega
        have hpv4 : pv < 4294967296 := by have := hpv.out; omega
        have hbw := Below.refl w2.heap.size w2
        have HNN := Lib.hid (show N ≤ 1000000 by omega)
        clear hS1 hW1 hW2 hT1 hT2 hT3 hT4 hT5 hac l1 l2 l3 l4 hN
        go_cut [4] (fun s wx => s = .string ⟨T5.toArray⟩ ∧ Hid (Below w2.heap.size w2 wx))
        case rest =>
          obtain ⟨rfl, hwc⟩ := hcut
          go_wp2
          go_roundw
          case rel => exact ⟨k + 1, N, T5, by omega, by go_num, rfl, rfl, Lib.hid (fun j hj => by
            by_cases hjk : j = k
            · rw [hjk]; exact HYES.out
            · exact hok.out j (by omega)), Lib.hid (by rw [HAC.out]; exact ⟨rfl, rfl⟩), HNN, Lib.hid (HB2.out.trans (hwc.out.mono HB2.out.size))⟩
          case measure => simp [intOf]; omega
        go_region_held_law (fun w' => w'.cell? ⟨ob, 0, none⟩ = some (.int .i64 (cn : Nat)) ∧ w'.cell? ⟨ob, 1, none⟩ = some (.slice A l.length cp) ∧ (convert 22 9 (.slice A l.length cp)).run Try.prog w' = .ok (.string ⟨l.toArray⟩) w')
          (exact HSS.out _ (by first | exact hbw | exact hbw.drew | exact hbw.alloc hbw.size _ | exact (hbw.drew).alloc hbw.size _ | exact (hbw.alloc hbw.size _).drew))
          (first
            | (go_at_call_of 23 (Value.int IntKind.i64 (N : Nat)); refine (refWord_any N hN4 _).mono ?_; rw [← HW.out.1]; rintro e w3 ⟨rfl, hb3⟩; have hbw := below_step (by first | exact hbw | exact hbw.drew | exact hbw.alloc hbw.size _ | exact (hbw.drew).alloc hbw.size _ | exact (hbw.alloc hbw.size _).drew) hb3; (first | (have hob := BytesAt.later hob hb3; have hs33 := hob.str; rw [← HW.out.2.2] at hs33) | (have hob := BytesAt.later (one_byte _ cn hcn) hb3; have hs33 := hob.str; rw [← HW.out.2.2] at hs33) | (have hob := BytesAt.later (BytesAt.later (one_byte _ cn hcn) (Below.refl _ _).drew) hb3; have hs33 := hob.str; rw [← HW.out.2.2] at hs33) | skip); clear hb3)
            | (go_at_call_of 23 (Value.int IntKind.i64 (pv : Nat)); refine (refWord_any pv hpv4 _).mono ?_; rw [← HW.out.2.1]; rintro e w4 ⟨rfl, hb4⟩; have hbw := below_step (by first | exact hbw | exact hbw.drew | exact hbw.alloc hbw.size _ | exact (hbw.drew).alloc hbw.size _ | exact (hbw.alloc hbw.size _).drew) hb4; (first | (have hob := BytesAt.later hob hb4; have hs33 := hob.str; rw [← HW.out.2.2] at hs33) | (have hob := BytesAt.later (one_byte _ cn hcn) hb4; have hs33 := hob.str; rw [← HW.out.2.2] at hs33) | (have hob := BytesAt.later (BytesAt.later (one_byte _ cn hcn) (Below.refl _ _).drew) hb4; have hs33 := hob.str; rw [← HW.out.2.2] at hs33) | skip); clear hb4))
        all_goals
          go_wp2_with fail
          go_meet
          exact ⟨rfl, Lib.hid (by first | exact hbw | exact hbw.drew | exact hbw.alloc hbw.size _ | exact (hbw.drew).alloc hbw.size _ | exact (hbw.alloc hbw.size _).drew)⟩
    · obtain rfl : k = len := by omega
      have hl0 := HBD.out k hk
      rw [← hpl.out.2] at hl0
      obtain ⟨W1, hW1⟩ : ∃ x, x = spellB 0 := ⟨_, rfl⟩
      obtain ⟨W2, hW2⟩ : ∃ x, x = spellB pv := ⟨_, rfl⟩
      obtain ⟨T1, hT1⟩ : ∃ x, x = L ++ (markB ++ [UInt8.ofNat 16]) := ⟨_, rfl⟩
      obtain ⟨T2, hT2⟩ : ∃ x, x = T1 ++ W1 := ⟨_, rfl⟩
      obtain ⟨T3, hT3⟩ : ∃ x, x = T2 ++ W2 := ⟨_, rfl⟩
      have hout : outJ (uOf X) k = T3 := by
        unfold outJ
        rw [← hpl.out.1, ← hpl.out.2, hT3, hT2, hT1, hW1, hW2]
        simp [unitB]
      have HOUT := Lib.hid hout
      have l1 : T1.length = L.length + 5 := by rw [hT1, List.length_append]; rfl
      have l2 : T2.length = L.length + 9 := by rw [hT2, List.length_append, l1, hW1]; rfl
      have q1 : ¬ 9223372036854775807 < L.length + 5 := by omega
      have q2 : ¬ 9223372036854775807 < T1.length + W1.length := by rw [l1, hW1]; simp [spellB]; omega
      have q3 : ¬ 9223372036854775807 < T2.length + W2.length := by rw [l2, hW2]; simp [spellB]; omega
      have t1 : (⟨L.toArray⟩ : ByteArray) ++ ⟨#[66, 66, 67, 68, 16]⟩ = ⟨T1.toArray⟩ := by rw [hT1]; exact str_app L (markB ++ [UInt8.ofNat 16])
      have t2 : (⟨T1.toArray⟩ : ByteArray) ++ ⟨W1.toArray⟩ = ⟨T2.toArray⟩ := by rw [hT2]; exact str_app T1 W1
      have t3 : (⟨T2.toArray⟩ : ByteArray) ++ ⟨W2.toArray⟩ = ⟨T3.toArray⟩ := by rw [hT3]; exact str_app T2 W2
      have hpv4 : pv < 4294967296 := by have := hpv.out; omega
      have HW := Lib.hid (And.intro hW1 hW2)
      clear hW1 hW2 hT1 hT2 hT3 hout l1 l2 hl0
      go_wp2_with fail
      refine (refWord_any 0 (by decide) _).mono ?_
      rw [← HW.out.1]
      rintro e w3 ⟨rfl, hb3⟩
      have HB3 := Lib.hid (hB.out.trans (hb3.mono hB.out.size))
      clear hb3
      go_wp2_with fail
      refine (refWord_any pv hpv4 _).mono ?_
      rw [← HW.out.2]
      rintro e w4 ⟨rfl, hb4⟩
      have HB4 := Lib.hid (HB3.out.trans (hb4.mono HB3.out.size))
      clear hb4
      obtain ⟨c5, w5, hcv, hbr, hb5⟩ := str_bytes w4 T3
      have HB5 := Lib.hid (HB4.out.trans (hb5.mono HB4.out.size))
      have HBR := Lib.hid hbr
      clear hbr hb5
      go_wp2
      go_ret2
      exact .inl ⟨hok.out, _, rfl, by rw [HOUT.out]; exact HBR.out, HB5.out⟩
end Go.Proofs.Ytbekkdlgibijdaa
