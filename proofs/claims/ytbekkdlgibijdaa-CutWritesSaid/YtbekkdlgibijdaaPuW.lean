/- The law CutWrites: its walk. -/
import Derived.Test.YtbekkdlgibijdaaPuO
import Derived.Test.YtbekkdlgibijdaaCuT
import Derived.Deep.DeepCutAuto
import Derived.Deep.CutBlock
import Derived.Deep.RegionHeld3
namespace Go.Proofs.Ytbekkdlgibijdaa.cutWrites
open Go.RowKit

theorem str_add (a b : List UInt8) : (⟨a.toArray⟩ : ByteArray) ++ ⟨b.toArray⟩ = ⟨(a ++ b).toArray⟩ := by
  apply ByteArray.ext
  simp
theorem bump {w : World} {base g c n : Nat} {l : List UInt8} (h : w.ownsRow base 5 1 (.slice (some ⟨g, 0, none⟩) n c) n (l.map bv)) (j : Nat) (hj : j < l.length) :
    (w.setCell ⟨g, j, none⟩ (.int .u8 (IntKind.u8.wrap ((l[j].toNat : Int) + 1)))).ownsRow base 5 1 (.slice (some ⟨g, 0, none⟩) n c) n ((l.set j (l[j] + 1)).map bv) := by
  have e : Value.int .u8 (IntKind.u8.wrap ((l[j].toNat : Int) + 1)) = bv (l[j] + 1) := by
    unfold bv
    rw [UInt8.toNat_add]
    have := l[j].toNat_lt
    congr 1
  rw [e, List.map_set]
  exact (h.stored j _).1
def PRow (w : World) (ob : Nat) (k v a : Int) (b : Value) : Prop := w.heap[ob]? = some (.cells #[.int .i64 k, .int .i64 v, .int .i64 a, b] 49 (0, 0))
theorem PRow.later {w w' : World} {ob : Nat} {k v a : Int} {b : Value} (h : PRow w ob k v a b) (hb : Below w.heap.size w w') : PRow w' ob k v a b := block_later h hb
theorem keep_drew {w : World} {a : Addr} {v : Value} (h : w.cell? a = some v) : w.drew.cell? a = some v := h
theorem one_at (w : World) (m : Nat) (hm : m < 256) : BytesAt (w.alloc (.cells #[.int .u8 (m : Nat)] 5)) 0 (.slice (some ⟨w.heap.size, 0, none⟩) 1 1) [UInt8.ofNat m] := by
  refine ⟨_, 1, rfl, Nat.le_refl _, .inr ⟨w.heap.size, 0, _, _, rfl, Nat.zero_le _, heap_alloc_new _ _, fun j hj => ?_⟩⟩
  have hj : j < 1 := hj
  match j, hj with
  | 0, _ => simp [bv_ofNat]; omega
theorem below_new {N : Nat} {a b c : World} {t : Nat} (h : Below N a b) (k : b.grownBy c (some t)) (hN : N ≤ b.heap.size) (ht : N ≤ t) : Below N a c := h.trans (below_of_grown k hN ht)
set_option maxRecDepth 20000 in
set_option maxHeartbeats 8000000 in
theorem walk (w : World) (a : Option Addr) (len cap : Nat) (X : Nat → PutX) (hs : PutRow w a len X) :
    Calls Try.prog 4 #[.slice a len cap] w fun e w' => e = .returned (.bool true) ∧ Below w.heap.size w w' := by
  obtain ⟨hlen, g, off, ha, hcell⟩ := hs
  have HS := Lib.hid hcell
  have HA := Lib.hid ha
  clear ha hcell
  go_enter Try.func4, Try.ntmps4
  go_wp2_with (first | (go_at_call 11; refine (first03 _).mono ?_; rintro e w1 ⟨rfl, hB1⟩; have HB1 := Lib.hid hB1; clear hB1))
  obtain ⟨pb, hpb⟩ : ∃ pb, pb = w1.heap.size := ⟨_, rfl⟩
  have hPN := pen_new w1
  rw [← hpb] at hPN ⊢
  have HPN := Lib.hid hPN
  have PN := Lib.hid (show w.heap.size ≤ pb by have := HB1.out.size; omega)
  clear hPN hpb
  go_loopw [5, 18] (fun s i wr => ∃ (j : Nat) (l : List UInt8), j ≤ len ∧ i = .int .i64 j ∧ s = .string ⟨l.toArray⟩ ∧ Hid (j ≤ 60 ∧ l.length ≤ 100 * j) ∧ Hid (PenAt wr pb l) ∧ Hid (Below w.heap.size w wr)) (fun _ i _ => (len - intOf i).toNat)
  case atStart => exact ⟨0, [], by omega, rfl, rfl, Lib.hid (by simp), HPN, Lib.hid (HB1.out.alloc HB1.out.size _)⟩
  case round =>
    obtain ⟨j, l, hj, rfl, rfl, hjl, hP, hB⟩ := hrel
    by_cases hlt : j < len
    · obtain rfl : a = some ⟨g, off, none⟩ := by
        rcases HA.out with h | h
        · omega
        · exact h
      obtain ⟨d0, d1, d2, d3, hq⟩ := HS.out j hlt
      have e0 := cell_later d0 hB.out
      have e1 := cell_later d1 hB.out
      have e2 := cell_later d2 hB.out
      have e3 := cell_later d3 hB.out
      have i1 : (0 : Int) ≤ (j : Int) := by omega
      have i2 : (j : Int) < (len : Int) := by omega
      obtain ⟨⟨kk, vv, aa, bs, bl⟩, hX⟩ : ∃ q, q = X j := ⟨_, rfl⟩
      rw [← hX] at e0 e1 e2 e3 hq
      clear d0 d1 d2 d3 hX
      obtain ⟨hbs, k0, k1, v0, v1, a0, a1⟩ := hq
      have HBS := Lib.hid hbs
      obtain ⟨A, c, hbv, hc, _, _⟩ := hbs
      dsimp only at *
      subst hbv
      by_cases h6 : 60 ≤ j
      · have i3 : (60 : Int) ≤ (j : Int) := by omega
        go_wp2_with (first
          | (go_at_call 27; refine (len_nil _).mono ?_; rintro e u1 ⟨rfl, rfl⟩)
          | (go_at_call 26; refine (pbytes_nil _).mono ?_; rintro e u2 ⟨rfl, rfl⟩))
        go_ret
        exact ⟨rfl, hB.out.alloc hB.out.size _⟩
      have h7 : (j : Int) < 60 := by omega
      by_cases h8 : 100 < bl.length
      · have i3 : (100 : Int) < (bl.length : Int) := by omega
        go_wp2_with (first
          | (go_at_call 27; refine (len_nil _).mono ?_; rintro e u1 ⟨rfl, rfl⟩)
          | (go_at_call 26; refine (pbytes_nil _).mono ?_; rintro e u2 ⟨rfl, rfl⟩))
        go_ret
        exact ⟨rfl, hB.out.alloc hB.out.size _⟩
      have h9 : (bl.length : Int) ≤ 100 := by omega
      have hq : (IntKind.u64.wrap kk).tmod 4 = 0 ∨ (IntKind.u64.wrap kk).tmod 4 = 1 ∨ (IntKind.u64.wrap kk).tmod 4 = 2 ∨ (IntKind.u64.wrap kk).tmod 4 = 3 := by
        rw [Int.tmod_eq_emod_of_nonneg (wrap_u64_nonneg kk)]; omega
      go_upto_region 9 with fail
      have hO := heap_alloc_new wr (.cells #[.int .i64 kk, .int .i64 vv, .int .i64 aa, .slice A bl.length c] 49)
      have HP := Lib.hid (hP.out.later ((Below.refl _ wr).alloc (Nat.le_refl _) (.cells #[.int .i64 kk, .int .i64 vv, .int .i64 aa, .slice A bl.length c] 49)))
      have HB := Lib.hid (hB.out.alloc hB.out.size (.cells #[.int .i64 kk, .int .i64 vv, .int .i64 aa, .slice A bl.length c] 49))
      obtain ⟨ob, hob⟩ : ∃ ob, ob = wr.heap.size := ⟨_, rfl⟩
      obtain ⟨wy, hwy⟩ : ∃ wy, wy = wr.alloc (.cells #[.int .i64 kk, .int .i64 vv, .int .i64 aa, .slice A bl.length c] 49) := ⟨_, rfl⟩
      have OP := Lib.hid (show pb < ob by obtain ⟨v, hv, _⟩ := hP.out; have := block_lt hv; omega)
      rw [← hob] at hO ⊢
      rw [← hwy] at hO HP HB ⊢
      have HO : Hid (PRow wy ob kk vv aa (.slice A bl.length c)) := Lib.hid hO
      have x0 := cell_of_row _ _ 0 _ _ _ hO
      have x1 := cell_of_row _ _ 1 _ _ _ hO
      have x2 := cell_of_row _ _ 2 _ _ _ hO
      have x3 := cell_of_row _ _ 3 _ _ _ hO
      have HQ := Lib.hid (HBS.out.later HB.out)
      clear hB hP hO hob hwy e0 e1 e2 e3
      have hw : (0 ≤ vv ∧ vv < 4294967296) ∨ vv < 0 ∨ (0 ≤ vv ∧ 4294967296 ≤ vv) := by omega
      rcases hw with ⟨hw0, hw1⟩ | hw0 | ⟨hw0, hw1⟩
      · go_upto_block 2 with fail
        obtain ⟨Tq, hTq⟩ : ∃ T, T = (IntKind.u64.wrap kk).tmod 4 := ⟨_, rfl⟩
        rw [← hTq] at hq ⊢
        have hq := Lib.hid hq
        clear hTq
        go_cut [5] (fun s wx => ∃ L : List UInt8, s = .string ⟨L.toArray⟩ ∧ Hid (L.length ≤ 100 * (j + 1)) ∧ Hid (PenAt wx pb L) ∧ Hid (Below w.heap.size w wx))
        case rest => as_aux_lemma =>
          obtain ⟨L, rfl, HLen, HP5, HB5⟩ := hcut
          have hLen := HLen.out
          clear HLen x0 x1 x2 x3
          go_wp2_with (first
            | (go_at_call 26; refine (pbytes_any HP5.out (by have := hjl.out; omega)).mono ?_; rintro e w6 ⟨v6, rfl, hown, hb⟩; have hs6 := (bytes_of_own hown).str; have HOW6 := Lib.hid hown; obtain ⟨A6, c6, rfl, _, _⟩ := bytes_of_own hown; have HP6 := Lib.hid (HP5.out.later hb); have HBM := Lib.hid hb; clear hown hb)
            | (go_at_call 27; refine (len_any HP6.out).mono ?_; rintro e w7 ⟨rfl, rfl⟩))
          obtain ⟨W5, hW5⟩ : ∃ W5, W5 = wc := ⟨_, rfl⟩
          rw [← hW5] at HOW6 HBM HP5 HB5
          go_loopw [173] (fun i wr => ∃ (k : Nat) (l' : List UInt8), k ≤ L.length ∧ i = .int .i64 k ∧ Hid (l'.length = L.length) ∧ Hid (wr.ownsRow W5.heap.size 5 1 (.slice A6 L.length c6) L.length (l'.map bv)) ∧ Hid (Below W5.heap.size W5 wr)) (fun i _ => (L.length - intOf i).toNat)
          case atStart => exact ⟨0, _, by omega, rfl, Lib.hid rfl, HOW6, HBM⟩
          case round =>
            obtain ⟨k, l', hk, rfl, hl', hOr, hBz⟩ := hrel
            by_cases hlt : k < L.length
            · obtain ⟨g5, rfl, hg5⟩ : ∃ g5, A6 = some ⟨g5, 0, none⟩ ∧ W5.heap.size ≤ g5 := by
                rcases hOr.out.2 with ⟨_, h0⟩ | ⟨g5, cap5, cur5, hv, hg, hh, _⟩
                · omega
                · cases hv
                  exact ⟨g5, rfl, hg⟩
              have hkl : k < l'.length := by rw [hl'.out]; exact hlt
              have e0 : wr.cell? ⟨g5, k, none⟩ = some (.int .u8 (l'[k].toNat : Nat)) := by
                rw [hOr.out.cellAt k (by omega)]; simp [hkl, bv]
              have e1 := hOr.out.frozenAt k
              have hup := bump hOr.out k hkl
              have HUP := Lib.hid hup
              have hb8 := l'[k].toNat_lt
              obtain ⟨Y, hY⟩ : ∃ Y, Y = l'[k].toNat := ⟨_, rfl⟩
              obtain ⟨l3, hl3e⟩ : ∃ l3, l3 = l'.set k (l'[k] + 1) := ⟨_, rfl⟩
              have HL3 : Hid (l3.length = L.length) := Lib.hid (by rw [hl3e, List.length_set]; exact hl'.out)
              rw [← hY, ← hl3e] at HUP
              rw [← hY] at e0 hb8
              have i3 : (0 : Int) ≤ (k : Int) := by omega
              have i4 : (k : Int) < (L.length : Int) := by omega
              have hgs := Lib.hid (grown_set wr g5 k (.int .u8 (IntKind.u8.wrap ((Y : Int) + 1))))
              clear hup hY hl3e
              go_wp2_with fail
              go_roundw
              case rel => exact ⟨k + 1, l3, by omega, by go_num, HL3, HUP, Lib.hid (below_grown2 hBz.out hgs.out hBz.out.size hg5)⟩
              case measure => simp [intOf]; omega
            · obtain rfl : L.length = k := by omega
              go_wp2_with fail
              go_roundw
              case rel => exact ⟨j + 1, L, by omega, by go_num, rfl, Lib.hid ⟨by omega, hLen⟩, Lib.hid (HP5.out.later hBz.out), Lib.hid (HB5.out.trans (hBz.out.mono HB5.out.size))⟩
              case measure => simp [intOf]; omega
        have hq4 : ((Tq == 0) = true) ∨ ((Tq == 0) = false ∧ (Tq == 1) = true) ∨ ((Tq == 0) = false ∧ (Tq == 1) = false ∧ (Tq == 2) = true) ∨ ((Tq == 0) = false ∧ (Tq == 1) = false ∧ (Tq == 2) = false) := by
          rcases hq.out with h | h | h | h <;> rw [h] <;> decide
        rcases hq4 with t0 | ⟨t0, t1⟩ | ⟨t0, t1, t2⟩ | ⟨t0, t1, t2⟩
        · have h256 : vv < 256 ∨ 256 ≤ vv := by omega
          rcases h256 with hw1' | hw1'
          · as_aux_lemma =>
              clear hw1
              have hw1 := hw1'
              clear hw1'
              obtain ⟨m, rfl⟩ : ∃ m : Nat, vv = (m : Int) := ⟨vv.toNat, by omega⟩
              have hm : m < 256 := by omega
              have hw2 : (m : Int) < 4294967296 := by omega
              obtain ⟨S, hS⟩ : ∃ S, S = [UInt8.ofNat m] := ⟨_, rfl⟩
              have hS4 : S.length = 1 := by rw [hS]; rfl
              obtain ⟨L, hL⟩ : ∃ L, L = l ++ S := ⟨_, rfl⟩
              have hLen : L.length ≤ 100 * (j + 1) := by rw [hL, List.length_append]; have := hjl.out; omega
              have hadd := str_add l S
              rw [← hL] at hadd
              have hsum : ¬ 9223372036854775807 < l.length + S.length := by have := hjl.out; omega
              have HLL := Lib.hid hL
              have HSS := Lib.hid hS
              have z1 : wy.cell? ⟨ob, 1, none⟩ = some (.int .i64 (m : Int)) := x1
              clear hL hS hS4
              go_wp2_with fail
              clear x0 x1 x2 x3
              go_region_held3 (fun w' => w'.cell? ⟨ob, 1, none⟩ = some (.int .i64 (m : Int)))
                (first
                  | exact z1
                  | exact keep_drew z1)
                (first
                  | (go_at_call_of 21 (Value.pointer none); refine (penB_nil _ _).mono ?_; rintro e w5 ⟨rfl, k4, hw5⟩; have HP5 := Lib.hid (show PenAt w5 pb L by rw [hw5]; exact HP4.out.later (below_drawn _ _ _)); have HB5 := Lib.hid (show Below w.heap.size w w5 by rw [hw5]; exact HB4.out.trans (below_drawn _ _ _)); have z1 : w5.cell? ⟨ob, 1, none⟩ = some (.int .i64 (m : Int)) := (by rw [hw5]; exact z1); clear hw5)
                  | (go_at_call 21; refine (penB_typed m hm (HP.out.later ((Below.refl _ wy).drew)) (by have := hjl.out; omega)).mono ?_; rw [← HSS.out, ← HLL.out]; rintro e w4 ⟨rfl, hp, hb, ht⟩; have HP4 := Lib.hid hp; have HB4 := Lib.hid ((HB.out.drew).trans (hb.mono PN.out)); have hO4 : PRow w4 ob kk (m : Int) aa (.slice A bl.length c) := ht _ _ _ _ HO.out (by decide) (by decide); have z1 : w4.cell? ⟨ob, 1, none⟩ = some (.int .i64 (m : Int)) := cell_of_row _ _ 1 _ _ _ hO4; clear hp hb ht hO4))
              have hs1 := (one_at w5 m hm).str
              rw [← HSS.out] at hs1
              clear z1
              go_upto_region 30 with fail
              obtain ⟨w5b, hw5b⟩ : ∃ w', w' = w5.alloc (.cells #[.int .u8 (m : Nat)] 5) := ⟨_, rfl⟩
              rw [← hw5b]
              have HP5b := Lib.hid (show PenAt w5b pb L by rw [hw5b]; exact HP5.out.later ((Below.refl _ w5).alloc (Nat.le_refl _) _))
              have HB5b := Lib.hid (show Below w.heap.size w w5b by rw [hw5b]; exact HB5.out.alloc HB5.out.size _)
              clear hs1 HP5 HB5 hw5b
              have HP5 := HP5b
              have HB5 := HB5b
              clear HP5b HB5b
              go_wp2_with (first
                | fail)
              go_meet
              exact ⟨L, rfl, Lib.hid hLen, HP5, HB5⟩
          · as_aux_lemma =>
              have hw2 := hw1
              obtain ⟨L, rfl⟩ : ∃ L, L = l := ⟨_, rfl⟩
              have hLen : L.length ≤ 100 * (j + 1) := by have := hjl.out; omega
              go_wp2_with fail
              clear x0 x2 x3
              have z1 : wy.cell? ⟨ob, 1, none⟩ = some (.int .i64 vv) := x1
              clear x1
              have d1 : decide (0 ≤ vv) = true := decide_eq_true (by omega)
              have d2 : decide (vv < 256) = false := decide_eq_false (by omega)
              go_quiet ((first
                | (go_at_call_of 21 (Value.pointer none); refine Calls.quiet_of (penB_nil _ _))
                | (go_at_call 21; refine Calls.quiet_of_same (penB_not vv (by omega)))))
              obtain ⟨w5, hw5⟩ : ∃ w', w' = wy.drewN nq := ⟨_, rfl⟩
              rw [← hw5]
              have HP5 := Lib.hid (show PenAt w5 pb L by rw [hw5]; exact HP.out.later (below_drawn _ _ _))
              have HB5 := Lib.hid (show Below w.heap.size w w5 by rw [hw5]; exact HB.out.trans (below_drawn _ _ _))
              have z1 : w5.cell? ⟨ob, 1, none⟩ = some (.int .i64 vv) := by rw [hw5]; exact z1
              clear hw5
              go_wp2_with (first
                | fail)
              go_meet
              exact ⟨L, rfl, Lib.hid hLen, HP5, HB5⟩
        · as_aux_lemma =>
            obtain ⟨m, rfl⟩ : ∃ m : Nat, vv = (m : Int) := ⟨vv.toNat, by omega⟩
            have hm : m < 4294967296 := by omega
            obtain ⟨S, hS⟩ : ∃ S, S = spellB m := ⟨_, rfl⟩
            have hS4 : S.length = 4 := by rw [hS]; rfl
            obtain ⟨L, hL⟩ : ∃ L, L = l ++ S := ⟨_, rfl⟩
            have hLen : L.length ≤ 100 * (j + 1) := by rw [hL, List.length_append]; have := hjl.out; omega
            have hadd := str_add l S
            rw [← hL] at hadd
            have hsum : ¬ 9223372036854775807 < l.length + S.length := by have := hjl.out; omega
            have HLL := Lib.hid hL
            have HSS := Lib.hid hS
            clear hL hS hS4
            go_wp2_with fail
            refine (penW_typed m hm HP.out (by have := hjl.out; omega)).mono ?_
            rw [← HSS.out, ← HLL.out]
            rintro e w4 ⟨rfl, hp, hb, ht⟩
            have HP4 := Lib.hid hp; have HB4 := Lib.hid (HB.out.trans (hb.mono PN.out)); have hO4 : PRow w4 ob kk (m : Int) aa (.slice A bl.length c) := ht _ _ _ _ HO.out (by decide) (by decide); have HO4 := Lib.hid hO4; have z1 := cell_of_row _ _ 1 _ _ _ hO4; clear hp hb ht hO4
            clear x0 x1 x2 x3
            go_wp2_with fail
            refine (penW_nil _ _).mono ?_
            rintro e w4b ⟨rfl, k4, hw4⟩
            have HP4b := Lib.hid (show PenAt w4b pb L by rw [hw4]; exact HP4.out.later (below_drawn _ _ _)); have HB4b := Lib.hid (show Below w.heap.size w w4b by rw [hw4]; exact HB4.out.trans (below_drawn _ _ _)); have hO4b : PRow w4b ob kk (m : Int) aa (.slice A bl.length c) := by (rw [hw4]; exact HO4.out.later (below_drawn _ _ _))
            have z1b := cell_of_row _ _ 1 _ _ _ hO4b
            clear hw4 hO4b z1
            go_wp2_with fail
            refine (refWord_any m hm _).mono ?_
            rw [← HSS.out]
            rintro e w5 ⟨rfl, hb⟩
            have HP5 := Lib.hid (HP4b.out.later hb); have HB5 := Lib.hid (HB4b.out.trans (hb.mono HB4b.out.size)); clear hb z1b
            go_wp2_with (first
              | fail)
            go_meet
            exact ⟨L, rfl, Lib.hid hLen, HP5, HB5⟩
        · as_aux_lemma =>
            obtain ⟨L, hL⟩ : ∃ L, L = l ++ bl := ⟨_, rfl⟩
            have hLen : L.length ≤ 100 * (j + 1) := by rw [hL, List.length_append]; have := hjl.out; omega
            have hadd := str_add l bl
            rw [← hL] at hadd
            have hsum : ¬ 9223372036854775807 < l.length + bl.length := by have := hjl.out; omega
            have HLL := Lib.hid hL
            clear hL
            go_wp2_with (first
              | (go_at_call_of 24 (Value.pointer none); refine (add_nil _ _ _ _).mono ?_; rintro e w6 ⟨⟨v6, rfl⟩, rfl⟩)
              | (go_at_call 24; refine (add_typed HP.out HQ.out (by have := hjl.out; omega)).mono ?_; rw [← HLL.out]; rintro e w5 ⟨⟨v5, rfl⟩, hp5, hb5, ht5⟩; have HP5 := Lib.hid hp5; have HB5 := Lib.hid (HB.out.trans (hb5.mono PN.out)); have hs5 := (HBS.out.later HB5.out).str; have hO5 : PRow w5 ob kk vv aa (.slice A bl.length c) := ht5 _ _ _ _ HO.out (by decide) (by decide); have z3 := cell_of_row _ _ 3 _ _ _ hO5; clear hp5 hb5 ht5 hO5)
              | fail)
            go_meet
            exact ⟨L, rfl, Lib.hid hLen, HP5, HB5⟩
        · have hv : (0 ≤ aa ∧ aa ≤ (l.length : Int) - 4) ∨ aa < 0 ∨ (0 ≤ aa ∧ (l.length : Int) - 4 < aa) := by omega
          rcases hv with ⟨hw2, hw3⟩ | hw2 | ⟨hw2, hw3⟩
          · as_aux_lemma =>
              obtain ⟨m, rfl⟩ : ∃ m : Nat, vv = (m : Int) := ⟨vv.toNat, by omega⟩
              obtain ⟨n, rfl⟩ : ∃ n : Nat, aa = (n : Int) := ⟨aa.toNat, by omega⟩
              have hm : m < 4294967296 := by omega
              have hn : n + 4 ≤ l.length := by omega
              have hl9 : (l.length : Int) ≤ 6000 := by have := hjl.out; omega
              obtain ⟨S, hS⟩ : ∃ S, S = spellB m := ⟨_, rfl⟩
              have hS4 : S.length = 4 := by rw [hS]; rfl
              obtain ⟨L, hL⟩ : ∃ L, L = splice l n S := ⟨_, rfl⟩
              have hLl : L.length = l.length := by rw [hL]; exact length_splice _ _ _ (by omega)
              have hLen : L.length ≤ 100 * (j + 1) := by have := hjl.out; omega
              have hL6 : L.length ≤ 4294967296 := by omega
              have HL6 := Lib.hid hL6
              have HLL := Lib.hid hL
              have HSS := Lib.hid hS
              have HS4 := Lib.hid hS4
              clear hL hS hS4 hLl hL6
              go_wp2_with fail
              refine (patch_typed n m hm HP.out (by have := hjl.out; omega) hn).mono ?_
              rw [← HSS.out, ← HLL.out]
              rintro e w4 ⟨rfl, hp, hb, ht⟩
              have HP4 := Lib.hid hp; have HB4 := Lib.hid (HB.out.trans (hb.mono (Nat.le_succ_of_le PN.out))); have hO4 : PRow w4 ob kk (m : Int) (n : Int) (.slice A bl.length c) := ht _ _ _ _ HO.out (by decide) (by decide); have HO4 := Lib.hid hO4; have z1 := cell_of_row _ _ 1 _ _ _ hO4; have z2 := cell_of_row _ _ 2 _ _ _ hO4; clear hp hb ht hO4
              clear x0 x1 x2 x3
              go_wp2_with fail
              refine (patch_nil _ _ _).mono ?_
              rintro e w4b ⟨rfl, rfl⟩
              go_wp2_with fail
              have z2 : w4.cell? ⟨ob, 2, none⟩ = some (.int .i64 (n : Int)) := z2
              have z1 : w4.cell? ⟨ob, 1, none⟩ = some (.int .i64 (m : Int)) := z1
              have r1 : IntKind.i64.wrap ((n : Int) + 4) = (n : Int) + 4 := by rw [IntKind.wrap_i64]; omega
              have r2 : (0 : Int) ≤ (n : Int) + 4 := by omega
              have r3 : ((n : Int) + 4).toNat = n + 4 := by omega
              have r4 : (n : Int) ≤ l.length := by omega
              have r5 : (n : Int) + 4 ≤ l.length := by omega
              have r6 : n ≤ l.length := by omega
              obtain ⟨T0, hT0⟩ : ∃ T, T = l.take n := ⟨_, rfl⟩
              obtain ⟨T1, hT1⟩ : ∃ T, T = l.drop (n + 4) := ⟨_, rfl⟩
              obtain ⟨T, hT⟩ : ∃ T, T = T0 ++ S := ⟨_, rfl⟩
              have hx0 : (⟨l.toArray⟩ : ByteArray).extract 0 n = ⟨T0.toArray⟩ := by rw [hT0]; exact ext0 l n
              have hx1 : (⟨l.toArray⟩ : ByteArray).extract (n + 4) l.length = ⟨T1.toArray⟩ := by rw [hT1]; exact ext1 l (n + 4)
              have hadd1 : (⟨T0.toArray⟩ : ByteArray) ++ ⟨S.toArray⟩ = ⟨T.toArray⟩ := by rw [hT]; exact str_add T0 S
              have hTL : T ++ T1 = L := by rw [HLL.out, hT, hT0, hT1]; unfold splice; rw [HS4.out, List.append_assoc]
              have hadd2 : (⟨T.toArray⟩ : ByteArray) ++ ⟨T1.toArray⟩ = ⟨L.toArray⟩ := by rw [← hTL]; exact str_add T T1
              have hTl := congrArg List.length hT
              have hTl2 := congrArg List.length hTL
              rw [List.length_append] at hTl hTl2
              have hsum1 : ¬ 9223372036854775807 < T0.length + S.length := by have := HL6.out; omega
              have hsum2 : ¬ 9223372036854775807 < T.length + T1.length := by have := HL6.out; omega
              clear hT0 hT1 hT hTL hTl hTl2
              go_region_held3 (fun w' => w'.cell? ⟨ob, 2, none⟩ = some (.int .i64 (n : Int)) ∧ w'.cell? ⟨ob, 1, none⟩ = some (.int .i64 (m : Int)))
                (first
                  | exact ⟨z2, z1⟩
                  | exact ⟨keep_drew z2, keep_drew z1⟩)
                (first
                  | (go_at_call 23; refine (refWord_any m hm _).mono ?_; rw [← HSS.out]; rintro e w5 ⟨rfl, hb⟩; have HP5 := Lib.hid ((HP4.out.later ((Below.refl _ w4).drew)).later hb); have HB5 := Lib.hid ((HB4.out.drew).trans (hb.mono HB4.out.size)); have z1 := cell_later (keep_drew z1) hb; have z2 := cell_later (keep_drew z2) hb; clear hb))
              clear z1 z2 r1 r2 r3 r4 r5 r6 hx0 hx1 hadd1 hadd2 hsum1 hsum2 hl9
              go_wp2_with (first
                | fail)
              go_meet
              exact ⟨L, rfl, Lib.hid hLen, HP5, HB5⟩
          · as_aux_lemma =>
              obtain ⟨L, rfl⟩ : ∃ L, L = l := ⟨_, rfl⟩
              have hLen : L.length ≤ 100 * (j + 1) := by have := hjl.out; omega
              have hl9 : (L.length : Int) ≤ 6000 := by have := hjl.out; omega
              go_wp2_with fail
              clear x0 x1 x2 x3
              refine (patch_not (B := pb) (l := L) aa vv HP.out (by omega) (by omega)).mono ?_
              rintro e w5 ⟨rfl, rfl⟩
              have HP5 := HP
              have HB5 := HB
              go_wp2_with fail
              refine (patch_nil _ _ _).mono ?_
              rintro e w4b ⟨rfl, rfl⟩
              go_wp2_with (first
                | fail)
              go_meet
              exact ⟨L, rfl, Lib.hid hLen, HP5, HB5⟩
          · as_aux_lemma =>
              obtain ⟨L, rfl⟩ : ∃ L, L = l := ⟨_, rfl⟩
              have hLen : L.length ≤ 100 * (j + 1) := by have := hjl.out; omega
              have hl9 : (L.length : Int) ≤ 6000 := by have := hjl.out; omega
              go_wp2_with fail
              clear x0 x1 x2 x3
              refine (patch_not (B := pb) (l := L) aa vv HP.out (by omega) (by omega)).mono ?_
              rintro e w5 ⟨rfl, rfl⟩
              have HP5 := HP
              have HB5 := HB
              go_wp2_with fail
              refine (patch_nil _ _ _).mono ?_
              rintro e w4b ⟨rfl, rfl⟩
              go_wp2_with (first
                | fail)
              go_meet
              exact ⟨L, rfl, Lib.hid hLen, HP5, HB5⟩
      · go_upto_block 2 with fail
        obtain ⟨Tq, hTq⟩ : ∃ T, T = (IntKind.u64.wrap kk).tmod 4 := ⟨_, rfl⟩
        rw [← hTq] at hq ⊢
        have hq := Lib.hid hq
        clear hTq
        go_cut [5] (fun s wx => ∃ L : List UInt8, s = .string ⟨L.toArray⟩ ∧ Hid (L.length ≤ 100 * (j + 1)) ∧ Hid (PenAt wx pb L) ∧ Hid (Below w.heap.size w wx))
        case rest => as_aux_lemma =>
          obtain ⟨L, rfl, HLen, HP5, HB5⟩ := hcut
          have hLen := HLen.out
          clear HLen x0 x1 x2 x3
          go_wp2_with (first
            | (go_at_call 26; refine (pbytes_any HP5.out (by have := hjl.out; omega)).mono ?_; rintro e w6 ⟨v6, rfl, hown, hb⟩; have hs6 := (bytes_of_own hown).str; have HOW6 := Lib.hid hown; obtain ⟨A6, c6, rfl, _, _⟩ := bytes_of_own hown; have HP6 := Lib.hid (HP5.out.later hb); have HBM := Lib.hid hb; clear hown hb)
            | (go_at_call 27; refine (len_any HP6.out).mono ?_; rintro e w7 ⟨rfl, rfl⟩))
          obtain ⟨W5, hW5⟩ : ∃ W5, W5 = wc := ⟨_, rfl⟩
          rw [← hW5] at HOW6 HBM HP5 HB5
          go_loopw [173] (fun i wr => ∃ (k : Nat) (l' : List UInt8), k ≤ L.length ∧ i = .int .i64 k ∧ Hid (l'.length = L.length) ∧ Hid (wr.ownsRow W5.heap.size 5 1 (.slice A6 L.length c6) L.length (l'.map bv)) ∧ Hid (Below W5.heap.size W5 wr)) (fun i _ => (L.length - intOf i).toNat)
          case atStart => exact ⟨0, _, by omega, rfl, Lib.hid rfl, HOW6, HBM⟩
          case round =>
            obtain ⟨k, l', hk, rfl, hl', hOr, hBz⟩ := hrel
            by_cases hlt : k < L.length
            · obtain ⟨g5, rfl, hg5⟩ : ∃ g5, A6 = some ⟨g5, 0, none⟩ ∧ W5.heap.size ≤ g5 := by
                rcases hOr.out.2 with ⟨_, h0⟩ | ⟨g5, cap5, cur5, hv, hg, hh, _⟩
                · omega
                · cases hv
                  exact ⟨g5, rfl, hg⟩
              have hkl : k < l'.length := by rw [hl'.out]; exact hlt
              have e0 : wr.cell? ⟨g5, k, none⟩ = some (.int .u8 (l'[k].toNat : Nat)) := by
                rw [hOr.out.cellAt k (by omega)]; simp [hkl, bv]
              have e1 := hOr.out.frozenAt k
              have hup := bump hOr.out k hkl
              have HUP := Lib.hid hup
              have hb8 := l'[k].toNat_lt
              obtain ⟨Y, hY⟩ : ∃ Y, Y = l'[k].toNat := ⟨_, rfl⟩
              obtain ⟨l3, hl3e⟩ : ∃ l3, l3 = l'.set k (l'[k] + 1) := ⟨_, rfl⟩
              have HL3 : Hid (l3.length = L.length) := Lib.hid (by rw [hl3e, List.length_set]; exact hl'.out)
              rw [← hY, ← hl3e] at HUP
              rw [← hY] at e0 hb8
              have i3 : (0 : Int) ≤ (k : Int) := by omega
              have i4 : (k : Int) < (L.length : Int) := by omega
              have hgs := Lib.hid (grown_set wr g5 k (.int .u8 (IntKind.u8.wrap ((Y : Int) + 1))))
              clear hup hY hl3e
              go_wp2_with fail
              go_roundw
              case rel => exact ⟨k + 1, l3, by omega, by go_num, HL3, HUP, Lib.hid (below_grown2 hBz.out hgs.out hBz.out.size hg5)⟩
              case measure => simp [intOf]; omega
            · obtain rfl : L.length = k := by omega
              go_wp2_with fail
              go_roundw
              case rel => exact ⟨j + 1, L, by omega, by go_num, rfl, Lib.hid ⟨by omega, hLen⟩, Lib.hid (HP5.out.later hBz.out), Lib.hid (HB5.out.trans (hBz.out.mono HB5.out.size))⟩
              case measure => simp [intOf]; omega
        have hq4 : ((Tq == 0) = true) ∨ ((Tq == 0) = false ∧ (Tq == 1) = true) ∨ ((Tq == 0) = false ∧ (Tq == 1) = false ∧ (Tq == 2) = true) ∨ ((Tq == 0) = false ∧ (Tq == 1) = false ∧ (Tq == 2) = false) := by
          rcases hq.out with h | h | h | h <;> rw [h] <;> decide
        rcases hq4 with t0 | ⟨t0, t1⟩ | ⟨t0, t1, t2⟩ | ⟨t0, t1, t2⟩
        · as_aux_lemma =>
            obtain ⟨L, rfl⟩ : ∃ L, L = l := ⟨_, rfl⟩
            have hLen : L.length ≤ 100 * (j + 1) := by have := hjl.out; omega
            go_wp2_with fail
            clear x0 x2 x3
            have z1 : wy.cell? ⟨ob, 1, none⟩ = some (.int .i64 vv) := x1
            clear x1
            have d1 : decide (0 ≤ vv) = false := decide_eq_false (by omega)
            go_quiet ((first
              | (go_at_call_of 21 (Value.pointer none); refine Calls.quiet_of (penB_nil _ _))
              | (go_at_call 21; refine Calls.quiet_of_same (penB_not vv (by omega)))))
            obtain ⟨w5, hw5⟩ : ∃ w', w' = wy.drewN nq := ⟨_, rfl⟩
            rw [← hw5]
            have HP5 := Lib.hid (show PenAt w5 pb L by rw [hw5]; exact HP.out.later (below_drawn _ _ _))
            have HB5 := Lib.hid (show Below w.heap.size w w5 by rw [hw5]; exact HB.out.trans (below_drawn _ _ _))
            have z1 : w5.cell? ⟨ob, 1, none⟩ = some (.int .i64 vv) := by rw [hw5]; exact z1
            clear hw5
            go_wp2_with (first
              | fail)
            go_meet
            exact ⟨L, rfl, Lib.hid hLen, HP5, HB5⟩
        · as_aux_lemma =>
            obtain ⟨L, rfl⟩ : ∃ L, L = l := ⟨_, rfl⟩
            have hLen : L.length ≤ 100 * (j + 1) := by have := hjl.out; omega
            go_wp2_with (first
              | (go_at_call_of 22 (Value.pointer none); refine (penW_nil _ _).mono ?_; rintro e w5 ⟨rfl, k4, hw5⟩; have HP5 := Lib.hid (show PenAt w5 pb L by rw [hw5]; exact HP.out.later (below_drawn _ _ _)); have HB5 := Lib.hid (show Below w.heap.size w w5 by rw [hw5]; exact HB.out.trans (below_drawn _ _ _)); clear hw5)
              | (go_at_call 22; refine (penW_not vv (by omega)).mono ?_; rintro e w4 ⟨rfl, hw4⟩; subst hw4)
              | fail)
            go_meet
            exact ⟨L, rfl, Lib.hid hLen, HP5, HB5⟩
        · as_aux_lemma =>
            obtain ⟨L, hL⟩ : ∃ L, L = l ++ bl := ⟨_, rfl⟩
            have hLen : L.length ≤ 100 * (j + 1) := by rw [hL, List.length_append]; have := hjl.out; omega
            have hadd := str_add l bl
            rw [← hL] at hadd
            have hsum : ¬ 9223372036854775807 < l.length + bl.length := by have := hjl.out; omega
            have HLL := Lib.hid hL
            clear hL
            go_wp2_with (first
              | (go_at_call_of 24 (Value.pointer none); refine (add_nil _ _ _ _).mono ?_; rintro e w6 ⟨⟨v6, rfl⟩, rfl⟩)
              | (go_at_call 24; refine (add_typed HP.out HQ.out (by have := hjl.out; omega)).mono ?_; rw [← HLL.out]; rintro e w5 ⟨⟨v5, rfl⟩, hp5, hb5, ht5⟩; have HP5 := Lib.hid hp5; have HB5 := Lib.hid (HB.out.trans (hb5.mono PN.out)); have hs5 := (HBS.out.later HB5.out).str; have hO5 : PRow w5 ob kk vv aa (.slice A bl.length c) := ht5 _ _ _ _ HO.out (by decide) (by decide); have z3 := cell_of_row _ _ 3 _ _ _ hO5; clear hp5 hb5 ht5 hO5)
              | fail)
            go_meet
            exact ⟨L, rfl, Lib.hid hLen, HP5, HB5⟩
        · have hv : (0 ≤ aa ∧ aa ≤ (l.length : Int) - 4) ∨ aa < 0 ∨ (0 ≤ aa ∧ (l.length : Int) - 4 < aa) := by omega
          rcases hv with ⟨hw2, hw3⟩ | hw2 | ⟨hw2, hw3⟩
          · as_aux_lemma =>
              obtain ⟨L, rfl⟩ : ∃ L, L = l := ⟨_, rfl⟩
              have hLen : L.length ≤ 100 * (j + 1) := by have := hjl.out; omega
              have hl9 : (L.length : Int) ≤ 6000 := by have := hjl.out; omega
              go_wp2_with fail
              clear x0 x1 x2 x3
              refine (patch_not (B := pb) (l := L) aa vv HP.out (by omega) (by omega)).mono ?_
              rintro e w5 ⟨rfl, rfl⟩
              have HP5 := HP
              have HB5 := HB
              go_wp2_with fail
              refine (patch_nil _ _ _).mono ?_
              rintro e w4b ⟨rfl, rfl⟩
              go_wp2_with (first
                | fail)
              go_meet
              exact ⟨L, rfl, Lib.hid hLen, HP5, HB5⟩
          · as_aux_lemma =>
              obtain ⟨L, rfl⟩ : ∃ L, L = l := ⟨_, rfl⟩
              have hLen : L.length ≤ 100 * (j + 1) := by have := hjl.out; omega
              have hl9 : (L.length : Int) ≤ 6000 := by have := hjl.out; omega
              go_wp2_with fail
              clear x0 x1 x2 x3
              refine (patch_not (B := pb) (l := L) aa vv HP.out (by omega) (by omega)).mono ?_
              rintro e w5 ⟨rfl, rfl⟩
              have HP5 := HP
              have HB5 := HB
              go_wp2_with fail
              refine (patch_nil _ _ _).mono ?_
              rintro e w4b ⟨rfl, rfl⟩
              go_wp2_with (first
                | fail)
              go_meet
              exact ⟨L, rfl, Lib.hid hLen, HP5, HB5⟩
          · as_aux_lemma =>
              obtain ⟨L, rfl⟩ : ∃ L, L = l := ⟨_, rfl⟩
              have hLen : L.length ≤ 100 * (j + 1) := by have := hjl.out; omega
              have hl9 : (L.length : Int) ≤ 6000 := by have := hjl.out; omega
              go_wp2_with fail
              clear x0 x1 x2 x3
              refine (patch_not (B := pb) (l := L) aa vv HP.out (by omega) (by omega)).mono ?_
              rintro e w5 ⟨rfl, rfl⟩
              have HP5 := HP
              have HB5 := HB
              go_wp2_with fail
              refine (patch_nil _ _ _).mono ?_
              rintro e w4b ⟨rfl, rfl⟩
              go_wp2_with (first
                | fail)
              go_meet
              exact ⟨L, rfl, Lib.hid hLen, HP5, HB5⟩
      · go_upto_block 2 with fail
        obtain ⟨Tq, hTq⟩ : ∃ T, T = (IntKind.u64.wrap kk).tmod 4 := ⟨_, rfl⟩
        rw [← hTq] at hq ⊢
        have hq := Lib.hid hq
        clear hTq
        go_cut [5] (fun s wx => ∃ L : List UInt8, s = .string ⟨L.toArray⟩ ∧ Hid (L.length ≤ 100 * (j + 1)) ∧ Hid (PenAt wx pb L) ∧ Hid (Below w.heap.size w wx))
        case rest => as_aux_lemma =>
          obtain ⟨L, rfl, HLen, HP5, HB5⟩ := hcut
          have hLen := HLen.out
          clear HLen x0 x1 x2 x3
          go_wp2_with (first
            | (go_at_call 26; refine (pbytes_any HP5.out (by have := hjl.out; omega)).mono ?_; rintro e w6 ⟨v6, rfl, hown, hb⟩; have hs6 := (bytes_of_own hown).str; have HOW6 := Lib.hid hown; obtain ⟨A6, c6, rfl, _, _⟩ := bytes_of_own hown; have HP6 := Lib.hid (HP5.out.later hb); have HBM := Lib.hid hb; clear hown hb)
            | (go_at_call 27; refine (len_any HP6.out).mono ?_; rintro e w7 ⟨rfl, rfl⟩))
          obtain ⟨W5, hW5⟩ : ∃ W5, W5 = wc := ⟨_, rfl⟩
          rw [← hW5] at HOW6 HBM HP5 HB5
          go_loopw [173] (fun i wr => ∃ (k : Nat) (l' : List UInt8), k ≤ L.length ∧ i = .int .i64 k ∧ Hid (l'.length = L.length) ∧ Hid (wr.ownsRow W5.heap.size 5 1 (.slice A6 L.length c6) L.length (l'.map bv)) ∧ Hid (Below W5.heap.size W5 wr)) (fun i _ => (L.length - intOf i).toNat)
          case atStart => exact ⟨0, _, by omega, rfl, Lib.hid rfl, HOW6, HBM⟩
          case round =>
            obtain ⟨k, l', hk, rfl, hl', hOr, hBz⟩ := hrel
            by_cases hlt : k < L.length
            · obtain ⟨g5, rfl, hg5⟩ : ∃ g5, A6 = some ⟨g5, 0, none⟩ ∧ W5.heap.size ≤ g5 := by
                rcases hOr.out.2 with ⟨_, h0⟩ | ⟨g5, cap5, cur5, hv, hg, hh, _⟩
                · omega
                · cases hv
                  exact ⟨g5, rfl, hg⟩
              have hkl : k < l'.length := by rw [hl'.out]; exact hlt
              have e0 : wr.cell? ⟨g5, k, none⟩ = some (.int .u8 (l'[k].toNat : Nat)) := by
                rw [hOr.out.cellAt k (by omega)]; simp [hkl, bv]
              have e1 := hOr.out.frozenAt k
              have hup := bump hOr.out k hkl
              have HUP := Lib.hid hup
              have hb8 := l'[k].toNat_lt
              obtain ⟨Y, hY⟩ : ∃ Y, Y = l'[k].toNat := ⟨_, rfl⟩
              obtain ⟨l3, hl3e⟩ : ∃ l3, l3 = l'.set k (l'[k] + 1) := ⟨_, rfl⟩
              have HL3 : Hid (l3.length = L.length) := Lib.hid (by rw [hl3e, List.length_set]; exact hl'.out)
              rw [← hY, ← hl3e] at HUP
              rw [← hY] at e0 hb8
              have i3 : (0 : Int) ≤ (k : Int) := by omega
              have i4 : (k : Int) < (L.length : Int) := by omega
              have hgs := Lib.hid (grown_set wr g5 k (.int .u8 (IntKind.u8.wrap ((Y : Int) + 1))))
              clear hup hY hl3e
              go_wp2_with fail
              go_roundw
              case rel => exact ⟨k + 1, l3, by omega, by go_num, HL3, HUP, Lib.hid (below_grown2 hBz.out hgs.out hBz.out.size hg5)⟩
              case measure => simp [intOf]; omega
            · obtain rfl : L.length = k := by omega
              go_wp2_with fail
              go_roundw
              case rel => exact ⟨j + 1, L, by omega, by go_num, rfl, Lib.hid ⟨by omega, hLen⟩, Lib.hid (HP5.out.later hBz.out), Lib.hid (HB5.out.trans (hBz.out.mono HB5.out.size))⟩
              case measure => simp [intOf]; omega
        have hq4 : ((Tq == 0) = true) ∨ ((Tq == 0) = false ∧ (Tq == 1) = true) ∨ ((Tq == 0) = false ∧ (Tq == 1) = false ∧ (Tq == 2) = true) ∨ ((Tq == 0) = false ∧ (Tq == 1) = false ∧ (Tq == 2) = false) := by
          rcases hq.out with h | h | h | h <;> rw [h] <;> decide
        rcases hq4 with t0 | ⟨t0, t1⟩ | ⟨t0, t1, t2⟩ | ⟨t0, t1, t2⟩
        · as_aux_lemma =>
            obtain ⟨L, rfl⟩ : ∃ L, L = l := ⟨_, rfl⟩
            have hLen : L.length ≤ 100 * (j + 1) := by have := hjl.out; omega
            go_wp2_with fail
            clear x0 x2 x3
            have z1 : wy.cell? ⟨ob, 1, none⟩ = some (.int .i64 vv) := x1
            clear x1
            have d1 : decide (0 ≤ vv) = true := decide_eq_true (by omega)
            have d2 : decide (vv < 256) = false := decide_eq_false (by omega)
            go_quiet ((first
              | (go_at_call_of 21 (Value.pointer none); refine Calls.quiet_of (penB_nil _ _))
              | (go_at_call 21; refine Calls.quiet_of_same (penB_not vv (by omega)))))
            obtain ⟨w5, hw5⟩ : ∃ w', w' = wy.drewN nq := ⟨_, rfl⟩
            rw [← hw5]
            have HP5 := Lib.hid (show PenAt w5 pb L by rw [hw5]; exact HP.out.later (below_drawn _ _ _))
            have HB5 := Lib.hid (show Below w.heap.size w w5 by rw [hw5]; exact HB.out.trans (below_drawn _ _ _))
            have z1 : w5.cell? ⟨ob, 1, none⟩ = some (.int .i64 vv) := by rw [hw5]; exact z1
            clear hw5
            go_wp2_with (first
              | fail)
            go_meet
            exact ⟨L, rfl, Lib.hid hLen, HP5, HB5⟩
        · as_aux_lemma =>
            obtain ⟨L, rfl⟩ : ∃ L, L = l := ⟨_, rfl⟩
            have hLen : L.length ≤ 100 * (j + 1) := by have := hjl.out; omega
            go_wp2_with (first
              | (go_at_call_of 22 (Value.pointer none); refine (penW_nil _ _).mono ?_; rintro e w5 ⟨rfl, k4, hw5⟩; have HP5 := Lib.hid (show PenAt w5 pb L by rw [hw5]; exact HP.out.later (below_drawn _ _ _)); have HB5 := Lib.hid (show Below w.heap.size w w5 by rw [hw5]; exact HB.out.trans (below_drawn _ _ _)); clear hw5)
              | (go_at_call 22; refine (penW_not vv (by omega)).mono ?_; rintro e w4 ⟨rfl, hw4⟩; subst hw4)
              | fail)
            go_meet
            exact ⟨L, rfl, Lib.hid hLen, HP5, HB5⟩
        · as_aux_lemma =>
            obtain ⟨L, hL⟩ : ∃ L, L = l ++ bl := ⟨_, rfl⟩
            have hLen : L.length ≤ 100 * (j + 1) := by rw [hL, List.length_append]; have := hjl.out; omega
            have hadd := str_add l bl
            rw [← hL] at hadd
            have hsum : ¬ 9223372036854775807 < l.length + bl.length := by have := hjl.out; omega
            have HLL := Lib.hid hL
            clear hL
            go_wp2_with (first
              | (go_at_call_of 24 (Value.pointer none); refine (add_nil _ _ _ _).mono ?_; rintro e w6 ⟨⟨v6, rfl⟩, rfl⟩)
              | (go_at_call 24; refine (add_typed HP.out HQ.out (by have := hjl.out; omega)).mono ?_; rw [← HLL.out]; rintro e w5 ⟨⟨v5, rfl⟩, hp5, hb5, ht5⟩; have HP5 := Lib.hid hp5; have HB5 := Lib.hid (HB.out.trans (hb5.mono PN.out)); have hs5 := (HBS.out.later HB5.out).str; have hO5 : PRow w5 ob kk vv aa (.slice A bl.length c) := ht5 _ _ _ _ HO.out (by decide) (by decide); have z3 := cell_of_row _ _ 3 _ _ _ hO5; clear hp5 hb5 ht5 hO5)
              | fail)
            go_meet
            exact ⟨L, rfl, Lib.hid hLen, HP5, HB5⟩
        · have hv : (0 ≤ aa ∧ aa ≤ (l.length : Int) - 4) ∨ aa < 0 ∨ (0 ≤ aa ∧ (l.length : Int) - 4 < aa) := by omega
          rcases hv with ⟨hw2, hw3⟩ | hw2 | ⟨hw2, hw3⟩
          · as_aux_lemma =>
              obtain ⟨L, rfl⟩ : ∃ L, L = l := ⟨_, rfl⟩
              have hLen : L.length ≤ 100 * (j + 1) := by have := hjl.out; omega
              have hl9 : (L.length : Int) ≤ 6000 := by have := hjl.out; omega
              go_wp2_with fail
              clear x0 x1 x2 x3
              refine (patch_not (B := pb) (l := L) aa vv HP.out (by omega) (by omega)).mono ?_
              rintro e w5 ⟨rfl, rfl⟩
              have HP5 := HP
              have HB5 := HB
              go_wp2_with fail
              refine (patch_nil _ _ _).mono ?_
              rintro e w4b ⟨rfl, rfl⟩
              go_wp2_with (first
                | fail)
              go_meet
              exact ⟨L, rfl, Lib.hid hLen, HP5, HB5⟩
          · as_aux_lemma =>
              obtain ⟨L, rfl⟩ : ∃ L, L = l := ⟨_, rfl⟩
              have hLen : L.length ≤ 100 * (j + 1) := by have := hjl.out; omega
              have hl9 : (L.length : Int) ≤ 6000 := by have := hjl.out; omega
              go_wp2_with fail
              clear x0 x1 x2 x3
              refine (patch_not (B := pb) (l := L) aa vv HP.out (by omega) (by omega)).mono ?_
              rintro e w5 ⟨rfl, rfl⟩
              have HP5 := HP
              have HB5 := HB
              go_wp2_with fail
              refine (patch_nil _ _ _).mono ?_
              rintro e w4b ⟨rfl, rfl⟩
              go_wp2_with (first
                | fail)
              go_meet
              exact ⟨L, rfl, Lib.hid hLen, HP5, HB5⟩
          · as_aux_lemma =>
              obtain ⟨L, rfl⟩ : ∃ L, L = l := ⟨_, rfl⟩
              have hLen : L.length ≤ 100 * (j + 1) := by have := hjl.out; omega
              have hl9 : (L.length : Int) ≤ 6000 := by have := hjl.out; omega
              go_wp2_with fail
              clear x0 x1 x2 x3
              refine (patch_not (B := pb) (l := L) aa vv HP.out (by omega) (by omega)).mono ?_
              rintro e w5 ⟨rfl, rfl⟩
              have HP5 := HP
              have HB5 := HB
              go_wp2_with fail
              refine (patch_nil _ _ _).mono ?_
              rintro e w4b ⟨rfl, rfl⟩
              go_wp2_with (first
                | fail)
              go_meet
              exact ⟨L, rfl, Lib.hid hLen, HP5, HB5⟩
    · obtain rfl : j = len := by omega
      go_wp2_with (first
        | (go_at_call 27; refine (len_nil _).mono ?_; rintro e u1 ⟨rfl, rfl⟩)
        | (go_at_call 26; refine (pbytes_nil _).mono ?_; rintro e u2 ⟨rfl, rfl⟩))
      go_ret
      exact ⟨rfl, hB.out⟩
end Go.Proofs.Ytbekkdlgibijdaa.cutWrites
