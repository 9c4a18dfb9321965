/- The law UnitSteps: its walk. -/
import Derived.Test.YtbekkdlgibijdaaUnQ
import Derived.Test.YtbekkdlgibijdaaCuS
namespace Go.Proofs.Ytbekkdlgibijdaa.unitSteps
open Go.RowKit

theorem known_of {h : List UInt8} {size : Int} (hh : headE h size = 0) : knownI (hCode h) = true := by
  unfold headE chkI at hh
  split at hh
  · split at hh
    · cases hh
    · rename_i h2
      simpa using h2
  · cases hh
set_option maxRecDepth 20000 in
set_option maxHeartbeats 4000000 in
theorem walk0 (w : World) (v : Value) (b : List UInt8) (h : BytesC w v b) :
    Calls Try.prog 10 #[v] w fun e w' => e = .returned (.bool true) ∧ Below w.heap.size w w' := by
  have HH := Lib.hid h
  obtain ⟨A, cp, rfl, _, _⟩ := h
  by_cases hbig : 2000 < b.length
  · have hb : (2000 : Int) < (b.length : Int) := by omega
    go_enter Try.func10, Try.ntmps10
    go_wp2_with (go_at_call 28; refine (first27 _).mono ?_; rintro e w1 ⟨rfl, hb1⟩; have HB1 := Lib.hid hb1; clear hb1)
    go_ret
    exact ⟨rfl, HB1.out⟩
  · have hb : ¬ (2000 : Int) < (b.length : Int) := by omega
    have hb9 : (b.length : Int) ≤ 2000 := by omega
    have HL := Lib.hid (show b.length ≤ 4294967296 by omega)
    go_enter Try.func10, Try.ntmps10
    go_wp2_with (go_at_call 28; refine (first27 _).mono ?_; rintro e w1 ⟨rfl, hb1⟩; have HB1 := Lib.hid hb1; have HH1 := Lib.hid (HH.out.later hb1); clear hb1)
    refine (new34_any _ b _ HH1.out.reads HL.out).mono ?_
    rintro e w2 ⟨wb, cb, rfl, hwb, hcb, hK, hb2⟩
    have HWC := Lib.hid (show w.heap.size ≤ wb ∧ w.heap.size ≤ cb from ⟨Nat.le_trans HB1.out.size hwb, Nat.le_trans HB1.out.size hcb⟩)
    have HB2 := Lib.hid (HB1.out.trans (hb2.mono HB1.out.size))
    obtain ⟨lo, hlo⟩ : ∃ lo, lo = w1.heap.size := ⟨_, rfl⟩
    rw [← hlo] at hK
    have HK := Lib.hid hK
    clear hwb hcb hK hb2 hlo HH HH1
    go_wp2_with fail
    go_loopw [4, 18] (fun lf i wr => ∃ (k at_ : Nat) (size : Int) (ended : Bool), k ≤ 200 ∧ at_ ≤ b.length ∧ i = .int .i64 k ∧ lf = .int .i64 ((b.length : Int) - (at_ : Int)) ∧ Hid (Wkr wr wb cb lo size ended b at_) ∧ Hid (Below w.heap.size w wr)) (fun _ i _ => (200 - intOf i).toNat)
    case atStart => exact ⟨0, 0, 0, false, by omega, by omega, rfl, by simp, HK, HB2⟩
    case round =>
      obtain ⟨k, at_, size, ended, hk, hat, rfl, rfl, hW, hB⟩ := hrel
      by_cases hlt : k < 200
      · have i2 : (k : Int) < 200 := by omega
        by_cases hE : wkE b at_ size ended = 0
        · have hN := next35_yes hW.out HL.out hE
          have hkn := fun V => known_any (hCode (nextB b at_ 13) : Nat) (by omega) (by have := hCode_lt (nextB b at_ 13); omega) V
          have hE1 : oneE b at_ size = 0 := by
            cases ended with
            | true => cases hE
            | false => exact hE
          obtain ⟨he1, he2, he3⟩ := oneE_ok hE1
          rw [known_of he3] at hkn
          obtain ⟨cd, hcd⟩ : ∃ c, c = hCode (nextB b at_ 13) := ⟨_, rfl⟩
          obtain ⟨n, hn⟩ : ∃ c, c = unitN (nextB b at_ 13) := ⟨_, rfl⟩
          rw [← hcd, ← hn] at hN
          rw [← hcd] at hkn
          rw [← hn] at he2
          have hn13 : 13 ≤ n := by rw [hn]; exact Nat.le_max_right _ _
          obtain ⟨D, rfl⟩ : ∃ D, n = 13 + D := ⟨n - 13, by omega⟩
          have HN := Lib.hid hN
          have HKN := Lib.hid hkn
          clear hE hE1 hN hkn he3 hcd hn hn13
          go_wp2_with fail
          refine HN.out.mono ?_
          clear HN
          rintro e w3 ⟨v, rfl, hby, hwk, hcur, hko, hbl⟩
          obtain ⟨A3, c3, rfl, _, _⟩ := hby
          have hlen : (nextB b (at_ + 13) (13 + D - 13)).length = D := by rw [nextB_len (by omega)]; omega
          rw [hlen]
          have HB3 := Lib.hid (hB.out.trans (hbl w.heap.size hB.out.size HWC.out.2 HWC.out.1))
          have hW3 : Wkr w3 wb cb lo ((13 + D : Nat) : Int) ((cd : Int) == 16) b (at_ + (13 + D)) := ⟨hwk, hcur⟩
          have hb4 := (Below.refl w3.heap.size w3).alloc (Nat.le_refl _) (.cells #[.int .i64 (cd : Nat), .slice A3 D c3] 66)
          have HW4 := Lib.hid (hW3.later hb4)
          have HB4 := Lib.hid (HB3.out.alloc HB3.out.size (.cells #[.int .i64 (cd : Nat), .slice A3 D c3] 66))
          have hU := Lib.hid (heap_alloc_new w3 (.cells #[.int .i64 (cd : Nat), .slice A3 D c3] 66))
          have hLf := left36_any HW4.out HL.out
          rw [show ((b.length - (at_ + (13 + D)) : Nat) : Int) = (b.length : Int) - (at_ : Int) - (13 + (D : Int)) by omega] at hLf
          have HLF := Lib.hid hLf
          clear hwk hcur hko hbl hlen hW3 hb4 hLf
          have d1 : (D : Int) ≤ 2000 := by omega
          have d2 : (at_ : Int) ≤ 2000 := by omega
          go_wp2_with (first
            | (go_at_call 36; refine HLF.out.mono ?_; rintro e w5 ⟨rfl, hb5⟩; have HB5 := Lib.hid (HB4.out.trans (hb5.mono HB4.out.size)); have HW5 := Lib.hid (HW4.out.later hb5); have u0 := cell_of_row _ _ 0 _ _ _ (block_later hU.out hb5); clear hb5)
            | (go_at_call 29; refine (HKN.out _).mono ?_; rintro e w6 ⟨rfl, rfl⟩))
          go_roundw
          case rel => exact ⟨k + 1, at_ + (13 + D), _, _, by omega, by omega, by go_num, by congr 1; omega, HW5, HB5⟩
          case measure => simp [intOf]; omega
        · have hN := fun V (hV : Below wr.heap.size wr V) => next35_no (hW.out.later hV) HL.out hE
          obtain ⟨E, hEe⟩ : ∃ E, E = wkE b at_ size ended := ⟨_, rfl⟩
          rw [← hEe] at hN hE
          have hne : (E != 0) = true := by simp [hE]
          have HN := Lib.hid hN
          clear hE hN hEe
          have hLf := fun V (hV : Below wr.heap.size wr V) => left36_any (hW.out.later hV) HL.out
          rw [show ((b.length - at_ : Nat) : Int) = (b.length : Int) - (at_ : Int) by omega] at hLf
          have HLF := Lib.hid hLf
          clear hLf
          go_wp2_with fail
          refine (HN.out _ (Below.refl _ _)).mono ?_
          rintro e w3 ⟨rfl, hb3⟩
          have HB3 := Lib.hid (hb3.alloc hb3.size (.cells z66 66))
          clear hb3
          go_wp2_with fail
          refine (HN.out _ HB3.out).mono ?_
          rintro e w4 ⟨rfl, hb4⟩
          have HB4 := Lib.hid ((HB3.out.trans (hb4.mono HB3.out.size)).alloc (by have := hb4.size; have := HB3.out.size; omega) (.cells z66 66))
          clear hb4
          go_wp2_with fail
          refine (HLF.out _ HB4.out).mono ?_
          rintro e w5 ⟨rfl, hb5⟩
          have HB5 := Lib.hid (hB.out.trans ((HB4.out.trans (hb5.mono HB4.out.size)).mono hB.out.size))
          clear hb5
          go_wp2
          go_ret
          exact ⟨rfl, HB5.out⟩
      · obtain rfl : k = 200 := by omega
        go_wp2
        go_ret
        exact ⟨rfl, hB.out⟩
theorem walk (w : World) (a : Option Addr) (len cap : Nat) (zs : List Int) (h : IsRow .u8 w a len cap zs) :
    Calls Try.prog 10 #[.slice a len cap] w fun e w' => e = .returned (.bool true) ∧ Below w.heap.size w w' := by
  obtain ⟨l, _, hb⟩ := bytes_of_row h
  exact walk0 w _ l hb
end Go.Proofs.Ytbekkdlgibijdaa.unitSteps
