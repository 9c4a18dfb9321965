/- The law UnitWalks: its walk. -/
import Derived.Test.YtbekkdlgibijdaaUnR
import Derived.Test.YtbekkdlgibijdaaCuS
import Derived.Deep.DeepCutAuto
namespace Go.Proofs.Ytbekkdlgibijdaa.unitWalks
open Go.RowKit

theorem same_one {w : World} {g : Nat} {c : Int} {v : Value} {l : List UInt8} (h : w.heap[g]? = some (.cells #[.int .i64 c, v] 66 (0, 0))) (hb : BytesR w v l) : SameRow w (some ⟨g, 0, none⟩) [(c, l)] := by
  refine ⟨g, 0, .inr rfl, fun i hi => ?_⟩
  have hi : i < 1 := hi
  obtain rfl : i = 0 := by omega
  exact ⟨by rw [cell_of_row _ _ _ _ _ _ h]; rfl, v, by rw [cell_of_row _ _ _ _ _ _ h]; rfl, hb⟩
/-- Same, of one unit each, laid side by side. -/
theorem same_two {w : World} {c : Int} {A1 A2 : Option Addr} {m1 c1 m2 c2 : Nat} {l : List UInt8} (h1 : BytesR w (.slice A1 m1 c1) l) (h2 : BytesR w (.slice A2 m2 c2) l) :
    Calls Try.prog 38 #[.slice (some ⟨w.heap.size, 0, none⟩) 1 1, .slice (some ⟨w.heap.size + 1, 0, none⟩) 1 1] ((w.alloc (.cells #[.int .i64 c, .slice A1 m1 c1] 66)).alloc (.cells #[.int .i64 c, .slice A2 m2 c2] 66)) fun e w' => e = .returned (.bool true) ∧ Below w.heap.size w w' := by
  have hb1 := (Below.refl w.heap.size w).alloc (Nat.le_refl _) (.cells #[.int .i64 c, .slice A1 m1 c1] 66)
  have hb2 := (Below.refl _ (w.alloc (.cells #[.int .i64 c, .slice A1 m1 c1] 66))).alloc (Nat.le_refl _) (.cells #[.int .i64 c, .slice A2 m2 c2] 66)
  have g1 := block_later (heap_alloc_new w (.cells #[.int .i64 c, .slice A1 m1 c1] 66)) hb2
  have g2 := heap_alloc_new (w.alloc (.cells #[.int .i64 c, .slice A1 m1 c1] 66)) (.cells #[.int .i64 c, .slice A2 m2 c2] 66)
  rw [World.size_alloc] at g2
  have := same_any _ (some ⟨w.heap.size, 0, none⟩) (some ⟨w.heap.size + 1, 0, none⟩) 1 1 [(c, l)] [(c, l)] (same_one g1 ((h1.later hb1).later hb2)) (same_one g2 ((h2.later hb1).later hb2)) (by simp) (by simp)
  rw [decide_eq_true rfl] at this
  refine this.mono fun e w' ⟨he, hb⟩ => ⟨he, ((hb1.trans (hb2.mono (by simp))).trans (hb.mono (by simp; omega)))⟩
theorem bytesR_nil (w : World) : BytesR w (.slice none 0 0) [] := ⟨none, 0, rfl, Nat.le_refl _, 0, 0, .inl rfl, fun j hj => by simp at hj⟩
set_option maxRecDepth 20000 in
set_option maxHeartbeats 4000000 in
theorem walk0 (w : World) (v : Value) (b : List UInt8) (h : BytesC w v b) :
    Calls Try.prog 7 #[v] w fun e w' => e = .returned (.bool true) ∧ Below w.heap.size w w' := by
  have HH := Lib.hid h
  obtain ⟨A, cp, rfl, _, _⟩ := h
  by_cases hbig : 2000 < b.length
  · have hb : (2000 : Int) < (b.length : Int) := by omega
    go_enter Try.func7, Try.ntmps7
    go_wp2_with (go_at_call 28; refine (first27 _).mono ?_; rintro e w1 ⟨rfl, hb1⟩; have HB1 := Lib.hid hb1; clear hb1)
    go_ret
    exact ⟨rfl, HB1.out⟩
  · have hb : ¬ (2000 : Int) < (b.length : Int) := by omega
    have hb9 : (b.length : Int) ≤ 2000 := by omega
    have HL := Lib.hid (show b.length ≤ 4294967296 by omega)
    go_enter Try.func7, Try.ntmps7
    go_wp2_with (go_at_call 28; refine (first27 _).mono ?_; rintro e w1 ⟨rfl, hb1⟩; have HB1 := Lib.hid hb1; have HH1 := Lib.hid (HH.out.later hb1); clear hb1)
    refine (new34_any _ b _ HH1.out.reads HL.out).mono ?_
    rintro e w2 ⟨wb, cb, rfl, hwb, hcb, hK, hb2⟩
    have HWC := Lib.hid (show w.heap.size ≤ wb ∧ w.heap.size ≤ cb from ⟨Nat.le_trans HB1.out.size hwb, Nat.le_trans HB1.out.size hcb⟩)
    have HB2 := Lib.hid (HB1.out.trans (hb2.mono HB1.out.size))
    obtain ⟨lo, hlo⟩ : ∃ lo, lo = w1.heap.size := ⟨_, rfl⟩
    rw [← hlo] at hK
    have HK := Lib.hid hK
    clear hwb hcb hK hb2 hlo HH1
    go_wp2_with fail
    refine (next35_nil _).mono ?_
    rintro e w3 ⟨rfl, hb3⟩
    have HK3 := Lib.hid ((HK.out.later hb3).later ((Below.refl _ w3).alloc (Nat.le_refl _) (.cells z66 66)))
    have HB3 := Lib.hid ((HB2.out.trans (hb3.mono HB2.out.size)).alloc (by have := hb3.size; have := HB2.out.size; omega) (.cells z66 66))
    clear hb3 HK
    go_wp2_with fail
    refine (left36_nil _).mono ?_
    rintro e w4 ⟨rfl, hb4⟩
    have HK4 := Lib.hid (HK3.out.later hb4)
    have HB4 := Lib.hid (HB3.out.trans (hb4.mono HB3.out.size))
    clear hb4 HK3
    go_wp2_with fail
    go_loopw [4, 5, 33] (fun av sv i wr => ∃ (k at_ n : Nat), k ≤ 200 ∧ at_ ≤ b.length ∧ n ≤ 4294967296 ∧ i = .int .i64 k ∧ av = .int .i64 (at_ : Nat) ∧ sv = .int .i64 (n : Nat) ∧ Hid (Wkr wr wb cb lo (n : Nat) false b at_) ∧ Hid (Below w.heap.size w wr)) (fun _ _ i _ => (200 - intOf i).toNat)
    case atStart => exact ⟨0, 0, 0, by omega, by omega, by omega, rfl, rfl, rfl, HK4, HB4⟩
    case round =>
      obtain ⟨k, at_, n, hk, hat, hn, rfl, rfl, rfl, hW, hB⟩ := hrel
      by_cases hlt : k < 200
      · have i2 : (k : Int) < 200 := by omega
        have hat' : (at_ : Int) ≤ (b.length : Int) := by omega
        have hone := fun V (hV : Below w.heap.size w V) => one_any V A cp b at_ (n : Nat) (HH.out.later hV) (by omega) hat
        by_cases hE : oneE b at_ (n : Nat) = 0
        · have hN := next35_yes hW.out HL.out (show wkE b at_ (n : Nat) false = 0 from hE)
          have hone2 := fun V (hV : Below w.heap.size w V) => (hone V hV).mono fun e w' hp => (show Below V.heap.size V w' ∧ ∃ v, e = .returned (.tuple #[.agg #[.int .i64 (hCode (nextB b at_ 13) : Nat), v], .int .i64 (unitN (nextB b at_ 13) : Nat), .int .i64 0]) ∧ BytesAt w' V.heap.size v (nextB b (at_ + 13) (unitN (nextB b at_ 13) - 13)) from by
            rcases hp with ⟨hb, ⟨h0, _⟩ | ⟨_, hv⟩⟩
            · exact absurd hE h0
            · exact ⟨hb, hv⟩)
          obtain ⟨he1, he2, _⟩ := oneE_ok hE
          have hcd4 := hCode_lt (nextB b at_ 13)
          have hun4 : unitN (nextB b at_ 13) ≤ 4294967296 := by have := hNext_lt (nextB b at_ 13); unfold unitN; omega
          obtain ⟨cd, hcd⟩ : ∃ c, c = hCode (nextB b at_ 13) := ⟨_, rfl⟩
          obtain ⟨N, hN'⟩ : ∃ c, c = unitN (nextB b at_ 13) := ⟨_, rfl⟩
          rw [← hcd, ← hN'] at hN hone2
          rw [← hcd] at hcd4
          rw [← hN'] at he2 hun4
          obtain ⟨dat, hdat⟩ : ∃ d, d = nextB b (at_ + 13) (N - 13) := ⟨_, rfl⟩
          have hN2 : ∀ e w', NxPost wr wb cb lo b at_ cd N e w' → ∃ v, e = .returned (.tuple #[.agg #[.int .i64 (cd : Nat), v], .int .i64 0]) ∧ BytesAt w' wr.heap.size v dat ∧ Wkr w' wb cb lo (N : Nat) ((cd : Int) == 16) b (at_ + N) ∧ Below w.heap.size w w' := fun e w' ⟨v, he, hby, hwk, hcur, _, hbl⟩ =>
            ⟨v, he, by rw [hdat]; exact hby, ⟨hwk, hcur⟩, hB.out.trans (hbl w.heap.size hB.out.size HWC.out.2 HWC.out.1)⟩
          rw [← hdat] at hone2
          have HN := Lib.hid (hN.mono hN2)
          have HONE := Lib.hid hone2
          have HA := Lib.hid (And.intro he2 hun4)
          have hN16 : (N : Int) ≤ 4294967296 := by omega
          have hatN : (at_ : Int) + (N : Int) ≤ (b.length : Int) := by omega
          clear hE hN hN2 hone hone2 hcd hN' hdat he1 he2 hun4
          go_wp2_with fail
          refine HN.out.mono ?_
          clear HN
          rintro e w5 ⟨v, rfl, hby, hw5, hb5⟩
          obtain ⟨A5, m5, c5, rfl⟩ := bytes_form hby
          have hal := (Below.refl w5.heap.size w5).alloc (Nat.le_refl _) (.cells #[.int .i64 (cd : Nat), .slice A5 m5 c5] 66)
          have HW5 := Lib.hid (hw5.later hal)
          have HB5 := Lib.hid (hb5.trans (hal.mono hb5.size))
          have HU5 := Lib.hid (heap_alloc_new w5 (.cells #[.int .i64 (cd : Nat), .slice A5 m5 c5] 66))
          have HR5 := Lib.hid (hby.reads.later hal)
          clear hby hw5 hb5 hal
          go_wp2_with fail
          refine (HONE.out _ HB5.out).mono ?_
          rintro e w6 ⟨hb6, v6, rfl, hby6⟩
          obtain ⟨A6, m6, c6, rfl⟩ := bytes_form hby6
          have hal := (Below.refl w6.heap.size w6).alloc (Nat.le_refl _) (.cells #[.int .i64 (cd : Nat), .slice A6 m6 c6] 66)
          have hu7 := block_later (block_later HU5.out hb6) hal
          have hx7 := heap_alloc_new w6 (.cells #[.int .i64 (cd : Nat), .slice A6 m6 c6] 66)
          have HB7 := Lib.hid ((HB5.out.trans (hb6.mono HB5.out.size)).trans (hal.mono (by have := hb6.size; have := HB5.out.size; omega)))
          have HW7 := Lib.hid ((HW5.out.later hb6).later hal)
          have hr1 := (HR5.out.later hb6).later hal
          have hr2 := hby6.reads.later hal
          clear hb6 HU5 HONE hal hby6 HR5
          go_upto_region 15 with fail
          obtain ⟨W7, hW7⟩ : ∃ W7, W7 = w6.alloc (.cells #[.int .i64 (cd : Nat), .slice A6 m6 c6] 66) := ⟨_, rfl⟩
          rw [← hW7]
          rw [← hW7] at hu7 hx7 HB7 HW7 hr1 hr2
          have u0 := cell_of_row _ _ 0 _ _ _ hu7
          have u1 := cell_of_row _ _ 1 _ _ _ hu7
          have x0 := keep_alloc (cell_of_row _ _ 0 _ _ _ hx7 : W7.cell? _ = some (.int .i64 (cd : Nat))) (.cells #[.int .i64 (cd : Nat), .slice A5 m5 c5] 66)
          have x1 := keep_alloc (cell_of_row _ _ 1 _ _ _ hx7 : W7.cell? _ = some (.slice A6 m6 c6)) (.cells #[.int .i64 (cd : Nat), .slice A5 m5 c5] 66)
          have HSM := Lib.hid (same_two (w := W7) (c := (cd : Nat)) hr1 hr2)
          have HU7 := Lib.hid hu7
          clear hu7 hx7 hW7 hr1 hr2
          go_wp2_with fail
          refine HSM.out.mono ?_
          rintro e W8 ⟨rfl, hb8⟩
          have HB8 := Lib.hid (HB7.out.trans (hb8.mono HB7.out.size))
          have HW8 := Lib.hid (HW7.out.later hb8)
          have HU8 := Lib.hid (block_later HU7.out hb8)
          clear hb8 u0 u1 x0 x1
          have hlf := fun V (hV : Below W8.heap.size W8 V) => left36_any (HW8.out.later hV) HL.out
          rw [show ((b.length - (at_ + N) : Nat) : Int) = (b.length : Int) - ((at_ : Int) + (N : Int)) by omega] at hlf
          have HLF := Lib.hid hlf
          clear hlf
          by_cases h16 : cd = 16
          · subst h16
            have hW8' : Wkr W8 wb cb lo (N : Nat) true b (at_ + N) := HW8.out
            have hN2 := fun V (hV : Below W8.heap.size W8 V) => next35_no (hW8'.later hV) HL.out (show wkE b (at_ + N) (N : Nat) true ≠ 0 from (by decide : (272 : Int) ≠ 0))
            have HN2 := Lib.hid (show ∀ V, Below W8.heap.size W8 V → Calls Try.prog 35 #[.pointer (some ⟨wb, 0, none⟩)] V fun e w' => e = .returned (.tuple #[.agg z66, .int .i64 272]) ∧ Below V.heap.size V w' from hN2)
            clear hW8' hN2
            go_wp2_with fail
            refine (HLF.out _ (Below.refl _ _)).mono ?_
            rintro e W9 ⟨rfl, hb9⟩
            have HB9 := Lib.hid hb9
            have q0 := cell_of_row _ _ 0 _ _ _ (block_later HU8.out hb9)
            clear hb9
            go_wp2_with fail
            refine (HN2.out _ HB9.out).mono ?_
            rintro e W10 ⟨rfl, hb10⟩
            have HB10 := Lib.hid (HB9.out.trans (hb10.mono HB9.out.size))
            clear hb10 q0
            go_wp2_with fail
            refine (HLF.out _ HB10.out).mono ?_
            rintro e W11 ⟨rfl, hb11⟩
            have HB11 := Lib.hid (HB8.out.trans ((HB10.out.trans (hb11.mono HB10.out.size)).mono HB8.out.size))
            clear hb11
            go_wp2
            go_ret
            exact ⟨rfl, HB11.out⟩
          · have h16b : ((cd : Int) == 16) = false := by simp; omega
            have hW8' := HW8.out
            rw [h16b] at hW8'
            have HW8' := Lib.hid hW8'
            clear hW8' h16
            go_wp2_with fail
            refine (HLF.out _ (Below.refl _ _)).mono ?_
            rintro e W9 ⟨rfl, hb9⟩
            have HB9 := Lib.hid (HB8.out.trans (hb9.mono HB8.out.size))
            have HW9 := Lib.hid (HW8'.out.later hb9)
            have q0 := cell_of_row _ _ 0 _ _ _ (block_later HU8.out hb9)
            clear hb9
            go_wp2
            go_roundw
            case rel => exact ⟨k + 1, at_ + N, N, by omega, HA.out.1, HA.out.2, by go_num, by go_num, rfl, HW9, HB9⟩
            case measure => simp [intOf]; omega
        · have hN := next35_no hW.out HL.out (show wkE b at_ (n : Nat) false ≠ 0 from hE)
          have hwe : wkE b at_ (n : Nat) false = oneE b at_ (n : Nat) := rfl
          rw [hwe] at hN
          have hone2 := fun V (hV : Below w.heap.size w V) => (hone V hV).mono fun e w' hp => (show e = .returned (.tuple #[.agg z66, .int .i64 0, .int .i64 (oneE b at_ (n : Nat))]) ∧ Below V.heap.size V w' from by
            rcases hp with ⟨hb, ⟨_, he⟩ | ⟨h0, _⟩⟩
            · exact ⟨he, hb⟩
            · exact absurd h0 hE)
          obtain ⟨E, hEe⟩ : ∃ E, E = oneE b at_ (n : Nat) := ⟨_, rfl⟩
          rw [← hEe] at hN hE hone2
          have hne : (E != 0) = true := by simp [hE]
          have hlf := fun V (hV : Below wr.heap.size wr V) => left36_any (hW.out.later hV) HL.out
          rw [show ((b.length - at_ : Nat) : Int) = (b.length : Int) - (at_ : Int) by omega] at hlf
          have HN := Lib.hid hN
          have HONE := Lib.hid hone2
          have HLF := Lib.hid hlf
          clear hE hN hEe hone hone2 hlf hwe
          go_wp2_with fail
          refine HN.out.mono ?_
          rintro e w5 ⟨rfl, hb5⟩
          have HB5 := Lib.hid (hb5.alloc hb5.size (.cells z66 66))
          have hu5 := block_later (heap_alloc_new w5 (.cells z66 66)) (Below.refl _ _)
          have HU5 := Lib.hid hu5
          clear hb5 hu5 HN
          go_wp2_with fail
          refine (HONE.out _ (hB.out.trans (HB5.out.mono hB.out.size))).mono ?_
          rintro e w6 ⟨rfl, hb6⟩
          have hu7 := block_later (block_later HU5.out hb6) ((Below.refl _ w6).alloc (Nat.le_refl _) (.cells z66 66))
          have hx7 := heap_alloc_new w6 (.cells z66 66)
          have HB7 := Lib.hid ((HB5.out.trans (hb6.mono HB5.out.size)).alloc (by have := hb6.size; have := HB5.out.size; omega) (.cells z66 66))
          clear hb6 HU5 HONE
          go_upto_region 15 with fail
          obtain ⟨W7, hW7⟩ : ∃ W7, W7 = w6.alloc (.cells z66 66) := ⟨_, rfl⟩
          have hW7' := hW7
          unfold z66 at hW7'
          rw [← hW7']
          rw [← hW7] at hu7 hx7 HB7
          have u0 := cell_of_row _ _ 0 _ _ _ hu7
          have u1 := cell_of_row _ _ 1 _ _ _ hu7
          have x0 := keep_alloc (cell_of_row _ _ 0 _ _ _ hx7 : W7.cell? _ = some (.int .i64 0)) (.cells #[.int .i64 0, .slice none 0 0] 66)
          have x1 := keep_alloc (cell_of_row _ _ 1 _ _ _ hx7 : W7.cell? _ = some (.slice none 0 0)) (.cells #[.int .i64 0, .slice none 0 0] 66)
          have HSM := Lib.hid (same_two (w := W7) (c := 0) (bytesR_nil W7) (bytesR_nil W7))
          clear hu7 hx7 hW7 hW7'
          go_wp2_with (first
            | (go_at_call 38; refine HSM.out.mono ?_; rintro e W8 ⟨rfl, hb8⟩; have HB8 := Lib.hid (HB7.out.trans (hb8.mono HB7.out.size)); clear hb8 u0 u1 x0 x1)
            | (go_at_call 36; refine (HLF.out _ HB8.out).mono ?_; rintro e W9 ⟨rfl, hb9⟩; have HB9 := Lib.hid (hB.out.trans ((HB8.out.trans (hb9.mono HB8.out.size)).mono hB.out.size)); clear hb9))
          go_ret
          exact ⟨rfl, HB9.out⟩
      · obtain rfl : k = 200 := by omega
        go_wp2
        go_ret
        exact ⟨rfl, hB.out⟩
theorem walk (w : World) (a : Option Addr) (len cap : Nat) (zs : List Int) (h : IsRow .u8 w a len cap zs) :
    Calls Try.prog 7 #[.slice a len cap] w fun e w' => e = .returned (.bool true) ∧ Below w.heap.size w w' := by
  obtain ⟨l, _, hb⟩ := bytes_of_row h
  exact walk0 w _ l hb
end Go.Proofs.Ytbekkdlgibijdaa.unitWalks
