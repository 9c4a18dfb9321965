/- The law UnitSplits: its walk. -/
import Derived.Test.YtbekkdlgibijdaaUnQ
import Derived.Test.YtbekkdlgibijdaaUnT
import Derived.Test.YtbekkdlgibijdaaCuS
import Derived.Deep.DeepCutAuto
namespace Go.Proofs.Ytbekkdlgibijdaa.unitSplits
open Go.RowKit

theorem acc_mono {U : Nat → Int × List UInt8} {k n : Nat} (h : k ≤ n) : (accU U k).1.length ≤ (accU U n).1.length := by
  induction n with
  | zero => obtain rfl : k = 0 := by omega
            exact Nat.le_refl _
  | succ n ih =>
    by_cases hk : k = n + 1
    · subst hk; exact Nat.le_refl _
    · have := ih (by omega)
      rw [acc_len]
      omega
theorem acc_ge (U : Nat → Int × List UInt8) (k : Nat) : 13 * k ≤ (accU U k).1.length := by
  induction k with
  | zero => exact Nat.zero_le _
  | succ k ih => rw [acc_len]; omega
theorem okJ_may {U : Nat → Int × List UInt8} {n : Nat} (hs : (accU U n).1.length ≤ 1000000) {k : Nat} (hk : k < n) : okJ U k ↔ mayJ U k := by
  have h1 := acc_mono (U := U) (show k + 1 ≤ n from hk)
  rw [acc_len] at h1
  unfold okJ mayJ
  exact ⟨fun h => ⟨h.1, h.2.1⟩, fun h => ⟨h.1, h.2, by omega⟩⟩
theorem xs_same {xs ys : List UX} (h : xs.map (·.1) = ys.map (·.1)) : plainU xs = plainU ys := by
  have e : ∀ zs : List UX, plainU zs = (zs.map (·.1)).map (fun p => ((p.1 : Int), p.2)) := fun zs => by simp [plainU]
  rw [e, e, h]
theorem splitE_ge (b : List UInt8) (m : Nat) : ∃ E : Int, E = splitE b m := ⟨_, rfl⟩
theorem nil_str (w : World) : (convert 22 9 (.slice none 0 0)).run Try.prog w = .ok (.string ⟨#[]⟩) w :=
  BytesR.str (l := []) ⟨none, 0, rfl, Nat.le_refl _, 0, 0, .inl rfl, fun j hj => by simp at hj⟩
set_option maxRecDepth 20000 in
set_option maxHeartbeats 4000000 in
theorem walk0 (w : World) (v : Value) (b : List UInt8) (h : BytesC w v b) (a : Option Addr) (len cap : Nat) (X : Nat → InfX) (hs : InfoRow w a len X) :
    Calls Try.prog 8 #[v, .slice a len cap] w fun e w' => e = .returned (.bool true) ∧ Below w.heap.size w w' := by
  have HH := Lib.hid h
  have HI := Lib.hid hs
  obtain ⟨A, cp, rfl, _, _⟩ := h
  obtain ⟨hlen, g, off, ha, hcell⟩ := hs
  have HA := Lib.hid ha
  clear ha
  by_cases hbig : 2000 < b.length
  · have hb : (2000 : Int) < (b.length : Int) := by omega
    go_enter Try.func8, Try.ntmps8
    go_wp2_with (go_at_call 28; refine (first27 _).mono ?_; rintro e w1 ⟨rfl, hb1⟩; have HB1 := Lib.hid hb1; clear hb1)
    go_ret
    exact ⟨rfl, HB1.out⟩
  have hb : ¬ (2000 : Int) < (b.length : Int) := by omega
  by_cases hbig2 : 100 < len
  · have hb2 : (100 : Int) < (len : Int) := by omega
    go_enter Try.func8, Try.ntmps8
    go_wp2_with (go_at_call 28; refine (first27 _).mono ?_; rintro e w1 ⟨rfl, hb1⟩; have HB1 := Lib.hid hb1; clear hb1)
    go_ret
    exact ⟨rfl, HB1.out⟩
  have hb2 : ¬ (100 : Int) < (len : Int) := by omega
  have hlen9 : (len : Int) ≤ 100 := by omega
  have HS := Lib.hid hcell
  clear hcell
  go_enter Try.func8, Try.ntmps8
  go_wp2_with (go_at_call 28; refine (first27 _).mono ?_; rintro e w1 ⟨rfl, hb1⟩; have HB1 := Lib.hid hb1; clear hb1)
  go_loopw [5, 28] (fun nv i wr => ∃ (k s : Nat), k ≤ len ∧ i = .int .i64 k ∧ nv = .int .i64 (s : Nat) ∧ s ≤ k * 140737488355328 ∧ Hid ((accU (uOf X) k).1.length = 13 * k + s) ∧ Hid (Below w.heap.size w wr)) (fun _ i _ => (len - intOf i).toNat)
  case atStart => exact ⟨0, 0, by omega, rfl, rfl, by omega, Lib.hid rfl, HB1⟩
  case round =>
    obtain ⟨k, s, hk, rfl, rfl, hsb, hacc, hB⟩ := hrel
    by_cases hlt : k < len
    · obtain rfl : a = some ⟨g, off, none⟩ := by
        rcases HA.out with h | h
        · omega
        · exact h
      obtain ⟨d0, d1, hq⟩ := HS.out k hlt
      have e0 := cell_later d0 hB.out
      have e1 := cell_later d1 hB.out
      have i1 : (0 : Int) ≤ (k : Int) := by omega
      have i2 : (k : Int) < (len : Int) := by omega
      obtain ⟨⟨c, bs, l⟩, hX⟩ : ∃ q, q = X k := ⟨_, rfl⟩
      rw [← hX] at e0 e1 hq
      have hU : uOf X k = (c, l) := by unfold uOf; rw [← hX]
      have hnx : (accU (uOf X) (k + 1)).1.length = 13 * (k + 1) + (s + l.length) := by rw [acc_len, hacc.out, hU]; show _ + _ + l.length = _; omega
      have HNX := Lib.hid hnx
      clear d0 d1 hX hU hnx
      obtain ⟨hbs, k0, k1, k2⟩ := hq
      obtain ⟨A1, cp1, hbv, hc, _, _⟩ := hbs
      dsimp only at *
      subst hbv
      have hk2 : (l.length : Int) ≤ 140737488355328 := by omega
      have hs2 : (s : Int) ≤ 14073748835532800 := by
        have : k * 140737488355328 ≤ 100 * 140737488355328 := Nat.mul_le_mul_right _ (by omega)
        omega
      have hO := heap_alloc_new wr (.cells #[.int .i64 c, .slice A1 l.length cp1] 66)
      have HB2 := Lib.hid (hB.out.alloc hB.out.size (.cells #[.int .i64 c, .slice A1 l.length cp1] 66))
      clear k2
      go_wp2_with fail
      go_roundw
      case rel => exact ⟨k + 1, s + l.length, by omega, by go_num, by go_num, by omega, HNX, HB2⟩
      case measure => simp [intOf]; omega
    · obtain rfl : k = len := by omega
      by_cases h5 : 5000 < s
      · have h5' : (5000 : Int) < (s : Int) := by omega
        go_wp2
        go_ret
        exact ⟨rfl, hB.out⟩
      · have h5' : ¬ (5000 : Int) < (s : Int) := by omega
        have htot : (accU (uOf X) k).1.length ≤ 1000000 := by rw [hacc.out]; omega
        have HTOT := Lib.hid htot
        clear htot
        have hL7 : b.length ≤ 2147483647 := by omega
        go_wp2_with fail
        refine (split_any _ b _ (HH.out.later hB.out).reads (by omega)).mono ?_
        rintro e w2 ⟨v2, xs, m, rfl, hcnt, hxs, hown2, hG2, hb2'⟩
        obtain ⟨A2, c2, rfl, hsr2⟩ := same_of_split hown2 hG2
        have HB2 := Lib.hid (hB.out.trans (hb2'.mono hB.out.size))
        have HR2 := Lib.hid hsr2
        clear hown2 hG2 hb2' hsr2
        have hlu : xs.length ≤ 2000 := by
          have h1 : xs.length = m := by have := congrArg List.length hxs; simpa using this
          have h2 : 13 * m ≤ b.length := by
            rcases m with _ | m
            · omega
            · have := pos_ge (b := b) (m + 1)
              have := goes_bound (hcnt.1 m (by omega))
              omega
          omega
        have HLU := Lib.hid (show (plainU xs).length ≤ 2000 by rw [plain_len]; exact hlu)
        clear hlu
        have HSP := Lib.hid (And.intro hcnt hxs)
        obtain ⟨E, hE⟩ : ∃ E, E = splitE b m := ⟨_, rfl⟩
        obtain ⟨us, hus⟩ : ∃ us, us = plainU xs := ⟨_, rfl⟩
        rw [← hE]
        rw [← hus] at HR2 HLU ⊢
        have HEU := Lib.hid (And.intro hE hus)
        clear hcnt hxs hE hus
        go_wp2_with fail
        refine (refSplit_any _ b _ (HH.out.later HB2.out) hL7).mono ?_
        rintro e w3 ⟨v3, ys, m', rfl, hcnt', hxs', hown3, hG3, hb3'⟩
        obtain ⟨A3, c3, rfl, hsr3⟩ := same_of_split hown3 hG3
        obtain rfl := count_one hcnt' HSP.out.1
        have hpl : plainU ys = us := by rw [HEU.out.2]; exact xs_same (hxs'.trans HSP.out.2.symm)
        rw [hpl] at hsr3 ⊢
        rw [← HEU.out.1]
        have HB3 := Lib.hid (HB2.out.trans (hb3'.mono HB2.out.size))
        have HR3 := Lib.hid (And.intro (HR2.out.later hb3') hsr3)
        clear hown3 hG3 hb3' hsr3 hcnt' hxs' hpl HR2
        go_wp2_with fail
        by_cases hall : ∀ j, j < k → mayJ (uOf X) j
        · have hok : ∀ j, j < k → okJ (uOf X) j := fun j hj => (okJ_may HTOT.out hj).2 (hall j hj)
          have HJ := Lib.hid (And.intro hok hall)
          clear hok hall
          refine (join_any _ a k cap X (HI.out.later HB3.out)).mono ?_
          rintro e w4 hp
          obtain ⟨v4, rfl, hown4, hb4⟩ : ∃ v, e = .returned (.tuple #[v, .int .i64 0]) ∧ w4.ownsRow w3.heap.size 5 1 v (outJ (uOf X) k).length ((outJ (uOf X) k).map bv) ∧ Below w3.heap.size w3 w4 := by
            rcases hp with ⟨_, h⟩ | ⟨⟨j, hj, _, hno⟩, _⟩
            · exact h
            · exact absurd (HJ.out.1 j hj) hno
          have hr4 := (bytes_of_own hown4).reads
          obtain ⟨A4, c4, rfl, _, _⟩ := bytes_of_own hown4
          obtain ⟨T, hT⟩ : ∃ T, T = outJ (uOf X) k := ⟨_, rfl⟩
          rw [← hT] at hr4 ⊢
          have HT := Lib.hid hT
          have HB4 := Lib.hid (HB3.out.trans (hb4.mono HB3.out.size))
          have HR4 := Lib.hid (And.intro hr4 (And.intro (HR3.out.1.later hb4) (HR3.out.2.later hb4)))
          clear hown4 hb4 hr4 hT HR3
          go_wp2_with fail
          refine (refJoin_any _ a k cap X (HI.out.later HB4.out) (fun j hj => Nat.le_trans (acc_mono hj) HTOT.out)).mono ?_
          rintro e w5 hp
          obtain ⟨v5, rfl, hr5, hb5⟩ : ∃ v, e = .returned (.tuple #[v, .bool true]) ∧ BytesR w5 v T ∧ Below w4.heap.size w4 w5 := by
            rcases hp with ⟨_, h⟩ | ⟨⟨j, hj, hno⟩, _⟩
            · rw [HT.out]; exact h
            · exact absurd (HJ.out.2 j hj) hno
          obtain ⟨A5, c5, rfl, _, _⟩ := id hr5
          have HB5 := Lib.hid (HB4.out.trans (hb5.mono HB4.out.size))
          have HR5 := Lib.hid (And.intro (HR4.out.1.later hb5) (And.intro hr5 (And.intro (HR4.out.2.1.later hb5) (HR4.out.2.2.later hb5))))
          clear hb5 hr5 HR4
          go_wp2_with (go_at_call 38; refine (same_any _ A2 A3 c2 c3 us us HR5.out.2.2.1 HR5.out.2.2.2 (by have := HLU.out; omega) (by have := HLU.out; omega)).mono ?_; rw [decide_eq_true rfl]; rintro e w6 ⟨rfl, hb6⟩; have s1 := (HR5.out.1.later hb6).str; have s2 := (HR5.out.2.1.later hb6).str; have HB6 := Lib.hid (HB5.out.trans (hb6.mono HB5.out.size)); clear hb6)
          go_ret
          exact ⟨rfl, HB6.out⟩
        · have hno : ∃ j, j < k ∧ ¬ mayJ (uOf X) j := by
            obtain ⟨j, hj⟩ := Classical.not_forall.1 hall
            obtain ⟨hj, hm⟩ := Classical.not_imp.1 hj
            exact ⟨j, hj, hm⟩
          have HJ := Lib.hid hno
          clear hno
          refine (join_any _ a k cap X (HI.out.later HB3.out)).mono ?_
          rintro e w4 hp
          obtain ⟨rfl, hb4⟩ : e = .returned (.tuple #[.slice none 0 0, .int .i64 2]) ∧ Below w3.heap.size w3 w4 := by
            rcases hp with ⟨h, _⟩ | ⟨_, h⟩
            · obtain ⟨j, hj, hm⟩ := HJ.out
              exact absurd ((okJ_may HTOT.out hj).1 (h j hj)) hm
            · exact h
          have HB4 := Lib.hid (HB3.out.trans (hb4.mono HB3.out.size))
          have HR4 := Lib.hid (And.intro (HR3.out.1.later hb4) (HR3.out.2.later hb4))
          clear hb4 HR3
          go_wp2_with fail
          refine (refJoin_any _ a k cap X (HI.out.later HB4.out) (fun j hj => Nat.le_trans (acc_mono hj) HTOT.out)).mono ?_
          rintro e w5 hp
          obtain ⟨rfl, hb5⟩ : e = .returned (.tuple #[.slice none 0 0, .bool false]) ∧ Below w4.heap.size w4 w5 := by
            rcases hp with ⟨h, _⟩ | ⟨_, h⟩
            · obtain ⟨j, hj, hm⟩ := HJ.out
              exact absurd (h j hj) hm
            · exact h
          have HB5 := Lib.hid (HB4.out.trans (hb5.mono HB4.out.size))
          have HR5 := Lib.hid (And.intro (HR4.out.1.later hb5) (HR4.out.2.later hb5))
          clear hb5 HR4
          go_wp2_with (go_at_call 38; refine (same_any _ A2 A3 c2 c3 us us HR5.out.1 HR5.out.2 (by have := HLU.out; omega) (by have := HLU.out; omega)).mono ?_; rw [decide_eq_true rfl]; rintro e w6 ⟨rfl, hb6⟩; have s1 := nil_str w6; have HB6 := Lib.hid (HB5.out.trans (hb6.mono HB5.out.size)); clear hb6)
          go_ret
          exact ⟨rfl, HB6.out⟩
theorem walk (w : World) (a : Option Addr) (len cap : Nat) (zs : List Int) (h : IsRow .u8 w a len cap zs) (a2 : Option Addr) (len2 cap2 : Nat) (X : Nat → InfX) (hs : InfoRow w a2 len2 X) :
    Calls Try.prog 8 #[.slice a len cap, .slice a2 len2 cap2] w fun e w' => e = .returned (.bool true) ∧ Below w.heap.size w w' := by
  obtain ⟨l, _, hb⟩ := bytes_of_row h
  exact walk0 w _ l hb a2 len2 cap2 X hs
end Go.Proofs.Ytbekkdlgibijdaa.unitSplits
