/- The law CutBack: its walk. -/
import Derived.Test.YtbekkdlgibijdaaCuK
import Derived.Test.YtbekkdlgibijdaaCuS
namespace Go.Proofs.Ytbekkdlgibijdaa.cutBack
open Go.RowKit

theorem take_snoc' {α : Type} {l : List α} {k : Nat} {x : α} (h : l[k]? = some x) : l.take (k + 1) = l.take k ++ [x] := by
  rw [List.take_add_one, h]; rfl
theorem pen_word {w : World} {B : Nat} {ws : List Nat} {m : Nat} (hm : m < 4294967296) (h : PenAt w B (encW ws)) (hl : ws.length ≤ 100) :
    Calls Try.prog 22 #[.pointer (some ⟨B, 0, none⟩), .int .i64 (m : Nat)] w fun e w' => e = .returned (.bool true) ∧ PenAt w' B (encW ws ++ spellB m) ∧ Below B w w' :=
  penW_yes m hm h (by rw [encW_len]; omega)
theorem pen_byte {w : World} {B : Nat} {ws : List Nat} {m : Nat} (h : PenAt w B (encW ws ++ spellB m)) (hl : ws.length ≤ 100) :
    Calls Try.prog 21 #[.pointer (some ⟨B, 0, none⟩), .int .i64 ((m : Int) % 256)] w fun e w' => e = .returned (.bool true) ∧ PenAt w' B (encW (ws ++ [m])) ∧ Below B w w' := by
  rw [encW_snoc, show (m : Int) % 256 = ((m % 256 : Nat) : Int) by omega]
  exact penB_yes (m % 256) (by omega) h (by rw [List.length_append, encW_len, spellB_len]; omega)

theorem read_word {w : World} {lo cb j m : Nat} {R : List UInt8} (h : Cur w lo cb R (5 * j)) (hl : R.length ≤ 4294967296) (hm : 5 * j + 5 ≤ R.length) (hn : nextB R (5 * j) 4 = spellB m) (hb : m < 4294967296) :
    Calls Try.prog 13 #[.pointer (some ⟨cb, 0, none⟩)] w fun e w' => e = .returned (.tuple #[.int .i64 (m : Nat), .bool true]) ∧ Cur w' lo cb R (5 * j + 4) ∧ w.grownBy w' (some cb) := by
  have := word_yes h hl (by omega)
  rw [hn, numB_spell hb] at this
  exact this
theorem read_byte {w : World} {lo cb j m : Nat} {R : List UInt8} (h : Cur w lo cb R (5 * j + 4)) (hl : R.length ≤ 4294967296) (hm : 5 * j + 5 ≤ R.length) (hn : nextB R (5 * j + 4) 1 = [UInt8.ofNat (m % 256)]) :
    Calls Try.prog 14 #[.pointer (some ⟨cb, 0, none⟩)] w fun e w' => e = .returned (.tuple #[.int .i64 ((m : Int) % 256), .bool true]) ∧ Cur w' lo cb R (5 * (j + 1)) ∧ w.grownBy w' (some cb) := by
  have := byte_yes h hl (by omega)
  rw [hn, numB_byte] at this
  exact this
theorem left0 {w : World} {lo cb n : Nat} {R : List UInt8} (h : Cur w lo cb R n) (hl : R.length ≤ 4294967296) (hn : n = R.length) :
    Calls Try.prog 19 #[.pointer (some ⟨cb, 0, none⟩)] w fun e w' => e = .returned (.int .i64 0) ∧ ∃ k, w' = w.drewN k := by
  have := left_cur h hl
  rw [hn, Nat.sub_self] at this
  exact this
theorem sub_at {w : World} {lo cb : Nat} {L : List UInt8} (x : Int) (q : Nat) (h : Cur w lo cb L 0) (hx : x = ((5 * q : Nat) : Int)) (hl : L.length ≤ 4294967296) (hm : 5 * q ≤ L.length) :
    Calls Try.prog 18 #[.pointer (some ⟨cb, 0, none⟩), .int .i64 x] w fun e w' => ∃ sb, e = .returned (.tuple #[.pointer (some ⟨sb, 0, none⟩), .bool true]) ∧ w.heap.size ≤ sb ∧ Cur w' lo sb (nextB L 0 (5 * q)) 0 ∧ Cur w' lo cb L (5 * q) ∧ w.grownBy w' (some cb) := by
  rw [hx]
  have := sub_yes (5 * q) h hl (by omega)
  rw [Nat.zero_add] at this
  exact this

set_option maxRecDepth 20000 in
set_option maxHeartbeats 4000000 in
theorem walk (w : World) (a : Option Addr) (len cap : Nat) (zs : List Int) (hz : IsRow .u32 w a len cap zs) (n : Int) (_hn : (Lit.int .i64 n).wf = true) :
    Calls Try.prog 5 #[.slice a len cap, .int .i64 n] w fun e w' => e = .returned (.bool true) ∧ Below w.heap.size w w' := by
  have hlen := hz.len
  obtain ⟨g, off, ha, hcell⟩ := hz.at
  have HC := Lib.hid hcell
  have HA := Lib.hid ha
  clear hz hcell ha _hn
  by_cases h60 : 100 < len
  · go_enter Try.func5, Try.ntmps5
    go_wp2_with (first | (go_at_call 11; refine (first03 _).mono ?_; rintro e w1 ⟨rfl, hB1⟩))
    go_ret
    exact ⟨rfl, hB1⟩
  obtain ⟨ys, hys⟩ : ∃ ys : List Nat, ys = (List.range len).map (fun i => (zs.getD i 0).toNat) := ⟨_, rfl⟩
  have hyl : ys.length = len := by rw [hys]; simp
  have hyg : ∀ i, i < len → ∃ m : Nat, ys[i]? = some m ∧ m < 4294967296 ∧ w.cell? ⟨g, off + i, none⟩ = some (.int .u32 (m : Nat)) := fun i hi => by
    obtain ⟨c0, c1, c2⟩ := HC.out i hi
    have c1' : 0 ≤ zs.getD i 0 := c1
    have c2' : zs.getD i 0 ≤ 4294967295 := c2
    refine ⟨(zs.getD i 0).toNat, by rw [hys]; simp [hi], by omega, ?_⟩
    rw [c0, Int.toNat_of_nonneg c1']
  have HYG := Lib.hid hyg
  have HYL := Lib.hid hyl
  clear hys hyg hyl HC
  go_enter Try.func5, Try.ntmps5
  go_wp2_with (first | (go_at_call 11; refine (first03 _).mono ?_; rintro e w1 ⟨rfl, hB1⟩))
  go_loopw [27] (fun i wr => ∃ k : Nat, k ≤ len ∧ i = .int .i64 k ∧ Hid (PenAt wr w1.heap.size (encW (ys.take k))) ∧ Hid (Below w1.heap.size w1 wr)) (fun i _ => (len - intOf i).toNat)
  case atStart => exact ⟨0, by omega, rfl, Lib.hid (pen_new _), Lib.hid ((Below.refl _ _).alloc (Nat.le_refl _) _)⟩
  case round =>
    obtain ⟨k, hk, rfl, hP, hB⟩ := hrel
    by_cases hlt : k < len
    · obtain rfl : a = some ⟨g, off, none⟩ := by
        rcases HA.out with h | h
        · omega
        · exact h
      obtain ⟨m, hm0, hm1, hm2⟩ := HYG.out k hlt
      have e0 := cell_later (cell_later hm2 hB1) hB.out
      have i1 : (0 : Int) ≤ (k : Int) := by omega
      have i2 : (k : Int) < (len : Int) := by omega
      have hlk : (ys.take k).length ≤ 100 := by simp; omega
      have hw := pen_word hm1 hP.out hlk
      have HW := Lib.hid hw
      have htk := take_snoc' hm0
      have HTK := Lib.hid htk
      have hB1s := hB.out.size
      clear hw htk hm2
      go_wp2_with (first
        | (go_at_call 22; refine HW.out.mono ?_; rintro e w2 ⟨rfl, hp, hb⟩; have HP2 := Lib.hid hp; have HB2 := Lib.hid (hB.out.trans hb); clear hp hb)
        | (go_at_call 21; refine (pen_byte HP2.out hlk).mono ?_; rintro e w3 ⟨rfl, hp, hb⟩; have HP3 := Lib.hid hp; have HB3 := Lib.hid (HB2.out.trans hb); clear hp hb))
      go_roundw
      case rel => exact ⟨k + 1, by omega, by go_num, Lib.hid (by rw [HTK.out]; exact HP3.out), HB3⟩
      case measure => simp [intOf]; omega
    · obtain rfl : k = len := by omega
      obtain ⟨L, hL⟩ : ∃ L, L = encW (ys.take k) := ⟨_, rfl⟩
      have hLl : L.length = 5 * k := by rw [hL, encW_len]; simp; have := HYL.out; omega
      have hLl2 : L.length ≤ 4294967296 := by omega
      rw [← hL] at hP
      have hys : ys.take k = ys := List.take_of_length_le (by rw [HYL.out]; exact Nat.le_refl _)
      rw [hys] at hL
      have HW4 : Hid (∀ j m, ys[j]? = some m → nextB L (5 * j) 4 = spellB m) := Lib.hid (fun j m h => by rw [hL]; exact next_word h)
      have HW1 : Hid (∀ j m, ys[j]? = some m → nextB L (5 * j + 4) 1 = [UInt8.ofNat (m % 256)]) := Lib.hid (fun j m h => by rw [hL]; exact next_byte h)
      have HLL := Lib.hid hLl
      clear hL hLl hys
      rcases (show n < 0 ∨ (0 ≤ n ∧ n ≤ k) ∨ (0 ≤ n ∧ (k : Int) < n) by omega) with hn0 | ⟨hn0, hn1⟩ | ⟨hn0, hn1⟩
      · obtain ⟨q, hq⟩ : ∃ q : Nat, q = 0 := ⟨_, rfl⟩
        go_wp2_with (first
          | (go_at_call 26; refine (pbytes_any hP.out hLl2).mono ?_; rintro e w2 ⟨v2, rfl, hown, hb⟩; have HO2 := Lib.hid hown; have HB2 := Lib.hid ((hB1.trans (hB.out.mono hB1.size)).trans (hb.mono (by have := hB1.size; have := hB.out.size; omega))); clear hown hb)
          | (go_at_call 12; refine (new_any _ _ L _ (bytes_of_own HO2.out) hLl2).mono ?_; rintro e w3 ⟨cb, rfl, hcb, hC, hb⟩; have HC3 := Lib.hid hC; have hk2 := HB2.out.size; have HN := Lib.hid (show w.heap.size ≤ cb by omega); have HB3 := Lib.hid (HB2.out.trans (hb.mono HB2.out.size)); clear hC hb)
          | (go_at_call 18; refine (sub_at _ q HC3.out (by omega) hLl2 (by rw [HLL.out]; omega)).mono ?_; rintro e w4 ⟨sb, rfl, hsb, hS, hC, hg⟩; have HC4 := Lib.hid hC; have HS4 := Lib.hid hS; have hk3 := HB3.out.size; have HN2 := Lib.hid (show w.heap.size ≤ sb by omega); have hne := HC3.out.lt; have HNE := Lib.hid (show sb ≠ cb by omega); have HB4 := Lib.hid (below_grown2 HB3.out hg HB3.out.size HN.out); clear hC hS hg hne hsb hcb hk2 hk3))
        have hSl : (nextB L 0 (5 * q)).length = 5 * q := nextB_len (by rw [HLL.out]; omega)
        have hSl2 : (nextB L 0 (5 * q)).length ≤ 4294967296 := by omega
        have HSL := Lib.hid hSl
        clear hSl
        go_loopw [59] (fun i wx => ∃ j p c : Nat, j ≤ k ∧ i = .int .i64 j ∧ Hid (p = min j q ∧ c = max j q) ∧ Hid (Cur wx w2.heap.size sb (nextB L 0 (5 * q)) (5 * p)) ∧ Hid (Cur wx w2.heap.size cb L (5 * c)) ∧ Hid (Below w.heap.size w wx)) (fun i _ => (k - intOf i).toNat)
        case atStart => exact ⟨0, 0, q, by omega, rfl, Lib.hid (by omega), HS4, HC4, HB4⟩
        case round =>
          obtain ⟨j, p, c, hj, rfl, hpc, hSj, hCj, hBj⟩ := hrel
          have hs0 := hBj.out.size
          by_cases hjk : j < k
          · obtain rfl : a = some ⟨g, off, none⟩ := by
              rcases HA.out with h | h
              · omega
              · exact h
            obtain ⟨m, hm0, hm1, hm2⟩ := HYG.out j hjk
            have e0 := cell_later hm2 hBj.out
            have i1 : (0 : Int) ≤ (j : Int) := by omega
            have i2 : (j : Int) < (k : Int) := by omega
            have g4 := Lib.hid (HW4.out j m hm0)
            have g1 := Lib.hid (HW1.out j m hm0)
            clear hm0 hm2
            by_cases hjq : j < q
            · have i3 : (j : Int) < n := by omega
              obtain rfl : p = j := by have := hpc.out; omega
              have hc : c = q := by have := hpc.out; omega
              go_wp2_with (first
              | (go_at_call 13; refine (read_word hSj.out hSl2 (by rw [HSL.out]; omega) (by rw [next_next (by omega)]; exact g4.out) hm1).mono ?_; rintro e w5 ⟨rfl, hC, hg⟩; have HQ5 := Lib.hid hC; have HO5 := Lib.hid (hCj.out.grown hg HNE.out (.inr hSj.out.typed)); have HB5 := Lib.hid (below_grown2 hBj.out hg hBj.out.size HN2.out); clear hC hg)
              | (go_at_call 14; refine (read_byte HQ5.out hSl2 (by rw [HSL.out]; omega) (by rw [next_next (by omega)]; exact g1.out)).mono ?_; rintro e w6 ⟨rfl, hC, hg⟩; have HQ6 := Lib.hid hC; have HO6 := Lib.hid (HO5.out.grown hg HNE.out (.inr HQ5.out.typed)); have HB6 := Lib.hid (below_grown2 HB5.out hg HB5.out.size HN2.out); clear hC hg))
              go_roundw
              case rel => exact ⟨p + 1, p + 1, c, by omega, by go_num, Lib.hid (by omega), HQ6, HO6, HB6⟩
              case measure => simp [intOf]; omega
            · have i3 : ¬ (j : Int) < n := by omega
              obtain rfl : c = j := by have := hpc.out; omega
              have hc : p = q := by have := hpc.out; omega
              go_wp2_with (first
              | (go_at_call 13; refine (read_word hCj.out hLl2 (by rw [HLL.out]; omega) g4.out hm1).mono ?_; rintro e w5 ⟨rfl, hC, hg⟩; have HQ5 := Lib.hid hC; have HO5 := Lib.hid (hSj.out.grown hg (Ne.symm HNE.out) (.inr hCj.out.typed)); have HB5 := Lib.hid (below_grown2 hBj.out hg hBj.out.size HN.out); clear hC hg)
              | (go_at_call 14; refine (read_byte HQ5.out hLl2 (by rw [HLL.out]; omega) g1.out).mono ?_; rintro e w6 ⟨rfl, hC, hg⟩; have HQ6 := Lib.hid hC; have HO6 := Lib.hid (HO5.out.grown hg (Ne.symm HNE.out) (.inr HQ5.out.typed)); have HB6 := Lib.hid (below_grown2 HB5.out hg HB5.out.size HN.out); clear hC hg))
              go_roundw
              case rel => exact ⟨c + 1, p, c + 1, by omega, by go_num, Lib.hid (by omega), HO6, HQ6, HB6⟩
              case measure => simp [intOf]; omega
          · obtain rfl : j = k := by omega
            have hc1 : 5 * c = L.length := by have := hpc.out; rw [HLL.out]; omega
            have hc2 : 5 * p = (nextB L 0 (5 * q)).length := by have := hpc.out; rw [HSL.out]; omega
            go_wp2_with (first
              | (go_at_call_of 19 (Value.pointer (some ⟨cb, 0, none⟩)); refine (left0 hCj.out hLl2 hc1).mono ?_; rintro e w7 ⟨rfl, k7, rfl⟩)
              | (go_at_call_of 19 (Value.pointer (some ⟨sb, 0, none⟩)); refine (left0 (hSj.out.later (below_drawn _ _ _)) hSl2 hc2).mono ?_; rintro e w8 ⟨rfl, k8, rfl⟩))
            go_ret
            exact ⟨rfl, hBj.out.trans (below_drawn _ _ _)⟩
      · obtain ⟨q, rfl⟩ : ∃ q : Nat, n = (q : Int) := ⟨n.toNat, by omega⟩
        have hqk : q ≤ k := by omega
        have q2 : IntKind.i64.wrap (5 * (q : Int)) = 5 * (q : Int) := by rw [IntKind.wrap_i64]; omega
        go_wp2_with (first
          | (go_at_call 26; refine (pbytes_any hP.out hLl2).mono ?_; rintro e w2 ⟨v2, rfl, hown, hb⟩; have HO2 := Lib.hid hown; have HB2 := Lib.hid ((hB1.trans (hB.out.mono hB1.size)).trans (hb.mono (by have := hB1.size; have := hB.out.size; omega))); clear hown hb)
          | (go_at_call 12; refine (new_any _ _ L _ (bytes_of_own HO2.out) hLl2).mono ?_; rintro e w3 ⟨cb, rfl, hcb, hC, hb⟩; have HC3 := Lib.hid hC; have hk2 := HB2.out.size; have HN := Lib.hid (show w.heap.size ≤ cb by omega); have HB3 := Lib.hid (HB2.out.trans (hb.mono HB2.out.size)); clear hC hb)
          | (go_at_call 18; refine (sub_at _ q HC3.out (by omega) hLl2 (by rw [HLL.out]; omega)).mono ?_; rintro e w4 ⟨sb, rfl, hsb, hS, hC, hg⟩; have HC4 := Lib.hid hC; have HS4 := Lib.hid hS; have hk3 := HB3.out.size; have HN2 := Lib.hid (show w.heap.size ≤ sb by omega); have hne := HC3.out.lt; have HNE := Lib.hid (show sb ≠ cb by omega); have HB4 := Lib.hid (below_grown2 HB3.out hg HB3.out.size HN.out); clear hC hS hg hne hsb hcb hk2 hk3))
        have hSl : (nextB L 0 (5 * q)).length = 5 * q := nextB_len (by rw [HLL.out]; omega)
        have hSl2 : (nextB L 0 (5 * q)).length ≤ 4294967296 := by omega
        have HSL := Lib.hid hSl
        clear hSl
        go_loopw [59] (fun i wx => ∃ j p c : Nat, j ≤ k ∧ i = .int .i64 j ∧ Hid (p = min j q ∧ c = max j q) ∧ Hid (Cur wx w2.heap.size sb (nextB L 0 (5 * q)) (5 * p)) ∧ Hid (Cur wx w2.heap.size cb L (5 * c)) ∧ Hid (Below w.heap.size w wx)) (fun i _ => (k - intOf i).toNat)
        case atStart => exact ⟨0, 0, q, by omega, rfl, Lib.hid (by omega), HS4, HC4, HB4⟩
        case round =>
          obtain ⟨j, p, c, hj, rfl, hpc, hSj, hCj, hBj⟩ := hrel
          have hs0 := hBj.out.size
          by_cases hjk : j < k
          · obtain rfl : a = some ⟨g, off, none⟩ := by
              rcases HA.out with h | h
              · omega
              · exact h
            obtain ⟨m, hm0, hm1, hm2⟩ := HYG.out j hjk
            have e0 := cell_later hm2 hBj.out
            have i1 : (0 : Int) ≤ (j : Int) := by omega
            have i2 : (j : Int) < (k : Int) := by omega
            have g4 := Lib.hid (HW4.out j m hm0)
            have g1 := Lib.hid (HW1.out j m hm0)
            clear hm0 hm2
            by_cases hjq : j < q
            · have i3 : (j : Int) < (q : Int) := by omega
              obtain rfl : p = j := by have := hpc.out; omega
              have hc : c = q := by have := hpc.out; omega
              go_wp2_with (first
              | (go_at_call 13; refine (read_word hSj.out hSl2 (by rw [HSL.out]; omega) (by rw [next_next (by omega)]; exact g4.out) hm1).mono ?_; rintro e w5 ⟨rfl, hC, hg⟩; have HQ5 := Lib.hid hC; have HO5 := Lib.hid (hCj.out.grown hg HNE.out (.inr hSj.out.typed)); have HB5 := Lib.hid (below_grown2 hBj.out hg hBj.out.size HN2.out); clear hC hg)
              | (go_at_call 14; refine (read_byte HQ5.out hSl2 (by rw [HSL.out]; omega) (by rw [next_next (by omega)]; exact g1.out)).mono ?_; rintro e w6 ⟨rfl, hC, hg⟩; have HQ6 := Lib.hid hC; have HO6 := Lib.hid (HO5.out.grown hg HNE.out (.inr HQ5.out.typed)); have HB6 := Lib.hid (below_grown2 HB5.out hg HB5.out.size HN2.out); clear hC hg))
              go_roundw
              case rel => exact ⟨p + 1, p + 1, c, by omega, by go_num, Lib.hid (by omega), HQ6, HO6, HB6⟩
              case measure => simp [intOf]; omega
            · have i3 : ¬ (j : Int) < (q : Int) := by omega
              obtain rfl : c = j := by have := hpc.out; omega
              have hc : p = q := by have := hpc.out; omega
              go_wp2_with (first
              | (go_at_call 13; refine (read_word hCj.out hLl2 (by rw [HLL.out]; omega) g4.out hm1).mono ?_; rintro e w5 ⟨rfl, hC, hg⟩; have HQ5 := Lib.hid hC; have HO5 := Lib.hid (hSj.out.grown hg (Ne.symm HNE.out) (.inr hCj.out.typed)); have HB5 := Lib.hid (below_grown2 hBj.out hg hBj.out.size HN.out); clear hC hg)
              | (go_at_call 14; refine (read_byte HQ5.out hLl2 (by rw [HLL.out]; omega) g1.out).mono ?_; rintro e w6 ⟨rfl, hC, hg⟩; have HQ6 := Lib.hid hC; have HO6 := Lib.hid (HO5.out.grown hg (Ne.symm HNE.out) (.inr HQ5.out.typed)); have HB6 := Lib.hid (below_grown2 HB5.out hg HB5.out.size HN.out); clear hC hg))
              go_roundw
              case rel => exact ⟨c + 1, p, c + 1, by omega, by go_num, Lib.hid (by omega), HO6, HQ6, HB6⟩
              case measure => simp [intOf]; omega
          · obtain rfl : j = k := by omega
            have hc1 : 5 * c = L.length := by have := hpc.out; rw [HLL.out]; omega
            have hc2 : 5 * p = (nextB L 0 (5 * q)).length := by have := hpc.out; rw [HSL.out]; omega
            go_wp2_with (first
              | (go_at_call_of 19 (Value.pointer (some ⟨cb, 0, none⟩)); refine (left0 hCj.out hLl2 hc1).mono ?_; rintro e w7 ⟨rfl, k7, rfl⟩)
              | (go_at_call_of 19 (Value.pointer (some ⟨sb, 0, none⟩)); refine (left0 (hSj.out.later (below_drawn _ _ _)) hSl2 hc2).mono ?_; rintro e w8 ⟨rfl, k8, rfl⟩))
            go_ret
            exact ⟨rfl, hBj.out.trans (below_drawn _ _ _)⟩
      · obtain ⟨q, hq⟩ : ∃ q : Nat, q = k := ⟨_, rfl⟩
        have q2 : IntKind.i64.wrap (5 * (k : Int)) = 5 * (k : Int) := by rw [IntKind.wrap_i64]; omega
        go_wp2_with (first
          | (go_at_call 26; refine (pbytes_any hP.out hLl2).mono ?_; rintro e w2 ⟨v2, rfl, hown, hb⟩; have HO2 := Lib.hid hown; have HB2 := Lib.hid ((hB1.trans (hB.out.mono hB1.size)).trans (hb.mono (by have := hB1.size; have := hB.out.size; omega))); clear hown hb)
          | (go_at_call 12; refine (new_any _ _ L _ (bytes_of_own HO2.out) hLl2).mono ?_; rintro e w3 ⟨cb, rfl, hcb, hC, hb⟩; have HC3 := Lib.hid hC; have hk2 := HB2.out.size; have HN := Lib.hid (show w.heap.size ≤ cb by omega); have HB3 := Lib.hid (HB2.out.trans (hb.mono HB2.out.size)); clear hC hb)
          | (go_at_call 18; refine (sub_at _ q HC3.out (by omega) hLl2 (by rw [HLL.out]; omega)).mono ?_; rintro e w4 ⟨sb, rfl, hsb, hS, hC, hg⟩; have HC4 := Lib.hid hC; have HS4 := Lib.hid hS; have hk3 := HB3.out.size; have HN2 := Lib.hid (show w.heap.size ≤ sb by omega); have hne := HC3.out.lt; have HNE := Lib.hid (show sb ≠ cb by omega); have HB4 := Lib.hid (below_grown2 HB3.out hg HB3.out.size HN.out); clear hC hS hg hne hsb hcb hk2 hk3))
        have hSl : (nextB L 0 (5 * q)).length = 5 * q := nextB_len (by rw [HLL.out]; omega)
        have hSl2 : (nextB L 0 (5 * q)).length ≤ 4294967296 := by omega
        have HSL := Lib.hid hSl
        clear hSl
        go_loopw [59] (fun i wx => ∃ j p c : Nat, j ≤ k ∧ i = .int .i64 j ∧ Hid (p = min j q ∧ c = max j q) ∧ Hid (Cur wx w2.heap.size sb (nextB L 0 (5 * q)) (5 * p)) ∧ Hid (Cur wx w2.heap.size cb L (5 * c)) ∧ Hid (Below w.heap.size w wx)) (fun i _ => (k - intOf i).toNat)
        case atStart => exact ⟨0, 0, q, by omega, rfl, Lib.hid (by omega), HS4, HC4, HB4⟩
        case round =>
          obtain ⟨j, p, c, hj, rfl, hpc, hSj, hCj, hBj⟩ := hrel
          have hs0 := hBj.out.size
          by_cases hjk : j < k
          · obtain rfl : a = some ⟨g, off, none⟩ := by
              rcases HA.out with h | h
              · omega
              · exact h
            obtain ⟨m, hm0, hm1, hm2⟩ := HYG.out j hjk
            have e0 := cell_later hm2 hBj.out
            have i1 : (0 : Int) ≤ (j : Int) := by omega
            have i2 : (j : Int) < (k : Int) := by omega
            have g4 := Lib.hid (HW4.out j m hm0)
            have g1 := Lib.hid (HW1.out j m hm0)
            clear hm0 hm2
            by_cases hjq : j < q
            · have i3 : (j : Int) < n := by omega
              obtain rfl : p = j := by have := hpc.out; omega
              have hc : c = q := by have := hpc.out; omega
              go_wp2_with (first
              | (go_at_call 13; refine (read_word hSj.out hSl2 (by rw [HSL.out]; omega) (by rw [next_next (by omega)]; exact g4.out) hm1).mono ?_; rintro e w5 ⟨rfl, hC, hg⟩; have HQ5 := Lib.hid hC; have HO5 := Lib.hid (hCj.out.grown hg HNE.out (.inr hSj.out.typed)); have HB5 := Lib.hid (below_grown2 hBj.out hg hBj.out.size HN2.out); clear hC hg)
              | (go_at_call 14; refine (read_byte HQ5.out hSl2 (by rw [HSL.out]; omega) (by rw [next_next (by omega)]; exact g1.out)).mono ?_; rintro e w6 ⟨rfl, hC, hg⟩; have HQ6 := Lib.hid hC; have HO6 := Lib.hid (HO5.out.grown hg HNE.out (.inr HQ5.out.typed)); have HB6 := Lib.hid (below_grown2 HB5.out hg HB5.out.size HN2.out); clear hC hg))
              go_roundw
              case rel => exact ⟨p + 1, p + 1, c, by omega, by go_num, Lib.hid (by omega), HQ6, HO6, HB6⟩
              case measure => simp [intOf]; omega
            · have i3 : ¬ (j : Int) < n := by omega
              obtain rfl : c = j := by have := hpc.out; omega
              have hc : p = q := by have := hpc.out; omega
              go_wp2_with (first
              | (go_at_call 13; refine (read_word hCj.out hLl2 (by rw [HLL.out]; omega) g4.out hm1).mono ?_; rintro e w5 ⟨rfl, hC, hg⟩; have HQ5 := Lib.hid hC; have HO5 := Lib.hid (hSj.out.grown hg (Ne.symm HNE.out) (.inr hCj.out.typed)); have HB5 := Lib.hid (below_grown2 hBj.out hg hBj.out.size HN.out); clear hC hg)
              | (go_at_call 14; refine (read_byte HQ5.out hLl2 (by rw [HLL.out]; omega) g1.out).mono ?_; rintro e w6 ⟨rfl, hC, hg⟩; have HQ6 := Lib.hid hC; have HO6 := Lib.hid (HO5.out.grown hg (Ne.symm HNE.out) (.inr HQ5.out.typed)); have HB6 := Lib.hid (below_grown2 HB5.out hg HB5.out.size HN.out); clear hC hg))
              go_roundw
              case rel => exact ⟨c + 1, p, c + 1, by omega, by go_num, Lib.hid (by omega), HO6, HQ6, HB6⟩
              case measure => simp [intOf]; omega
          · obtain rfl : j = k := by omega
            have hc1 : 5 * c = L.length := by have := hpc.out; rw [HLL.out]; omega
            have hc2 : 5 * p = (nextB L 0 (5 * q)).length := by have := hpc.out; rw [HSL.out]; omega
            go_wp2_with (first
              | (go_at_call_of 19 (Value.pointer (some ⟨cb, 0, none⟩)); refine (left0 hCj.out hLl2 hc1).mono ?_; rintro e w7 ⟨rfl, k7, rfl⟩)
              | (go_at_call_of 19 (Value.pointer (some ⟨sb, 0, none⟩)); refine (left0 (hSj.out.later (below_drawn _ _ _)) hSl2 hc2).mono ?_; rintro e w8 ⟨rfl, k8, rfl⟩))
            go_ret
            exact ⟨rfl, hBj.out.trans (below_drawn _ _ _)⟩
end Go.Proofs.Ytbekkdlgibijdaa.cutBack
