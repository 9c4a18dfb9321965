/- The law CutReads: its walk. -/
import Derived.Test.YtbekkdlgibijdaaCuO
import Derived.Deep.CutRange
namespace Go.Proofs.Ytbekkdlgibijdaa.cutReads
open Go.RowKit

/-- What the walk is told of the script: a slice of structs of two ints. -/
def ScRow (w : World) (sa : Option Addr) (slen : Nat) (K N : Nat → Int) : Prop :=
  (slen : Int) ≤ 9223372036854775807 ∧ ∃ g off, (slen = 0 ∨ sa = some ⟨g, off, none⟩) ∧ ∀ i, i < slen → w.cell? ⟨g, off + i * 2, none⟩ = some (.int .i64 (K i)) ∧ w.cell? ⟨g, off + i * 2 + 1, none⟩ = some (.int .i64 (N i)) ∧ -9223372036854775808 ≤ K i ∧ K i ≤ 9223372036854775807 ∧ -9223372036854775808 ≤ N i ∧ N i ≤ 9223372036854775807

theorem bump {w : World} {base g c n : Nat} {l : List UInt8} (h : w.ownsRow base 5 1 (.slice (some ⟨g, 0, none⟩) n c) n (l.map bv)) (j : Nat) (hj : j < l.length) :
    (w.setCell ⟨g, j, none⟩ (.int .u8 (IntKind.u8.wrap ((l[j].toNat : Int) + 1)))).ownsRow base 5 1 (.slice (some ⟨g, 0, none⟩) n c) n ((l.set j (l[j] + 1)).map bv) := by
  have e : Value.int .u8 (IntKind.u8.wrap ((l[j].toNat : Int) + 1)) = bv (l[j] + 1) := by
    unfold bv
    rw [UInt8.toNat_add]
    have := l[j].toNat_lt
    congr 1
  rw [e, List.map_set]
  exact (h.stored j _).1
theorem grown_new {a b c : World} {r t : Nat} (h : a.grownBy b (some r)) (k : b.grownBy c (some t)) (ht : a.heap.size ≤ t) : a.grownBy c (some r) :=
  ⟨k.os.trans h.os, k.tape.trans h.tape, k.output.trans h.output, Nat.le_trans h.size k.size, fun i hi hr => (k.block i (Nat.lt_of_lt_of_le hi h.size) (fun e => by cases e; omega)).trans (h.block i hi hr)⟩
set_option maxRecDepth 20000 in
set_option maxHeartbeats 8000000 in
theorem walk (w : World) (a : Option Addr) (len cap : Nat) (zs : List Int) (hz : IsRow .u8 w a len cap zs) (sa : Option Addr) (slen scap : Nat) (K N : Nat → Int) (hs : ScRow w sa slen K N) :
    Calls Try.prog 3 #[.slice a len cap, .slice sa slen scap] w fun e w' => e = .returned (.bool true) ∧ Below w.heap.size w w' := by
  have hlen := hz.len
  obtain ⟨hslen, g, off, ha, hcell⟩ := hs
  have HS := Lib.hid hcell
  have HA := Lib.hid ha
  obtain ⟨l, hl, hb⟩ := bytes_of_row hz
  have HB := Lib.hid hb
  clear hz hcell ha hb
  by_cases h60 : 500 < len
  · go_enter Try.func3, Try.ntmps3
    go_wp2_with (first | (go_at_call 11; refine (first03 _).mono ?_; rintro e w1 ⟨rfl, hB1⟩))
    go_ret
    exact ⟨rfl, hB1⟩
  subst hl
  have hl2 : l.length ≤ 4294967296 := by omega
  go_enter Try.func3, Try.ntmps3
  go_wp2_with (first
    | (go_at_call 11; refine (first03 _).mono ?_; rintro e w1 ⟨rfl, hB1⟩; have HB1 := Lib.hid hB1; clear hB1)
    | (at_builtin; refine wpList_append_bytes rfl _ _ rfl w1.heap.size _ 0 [] rfl (own_empty w1 _ (Nat.le_refl _)) _ l rfl ((HB.out.later HB1.out).later ((Below.refl _ _).alloc (Nat.le_refl _) _)) (by omega) (by simp) ?_; intro v2 w2 hown hgrow; have HO2 := Lib.hid (show w2.ownsRow w1.heap.size 5 1 v2 l.length (l.map bv) by simpa using hown); have HB2 := Lib.hid (HB1.out.trans (((Below.refl w1.heap.size w1).alloc (Nat.le_refl _) _).grown hgrow (by simp) (fun k hk => by cases hk; exact Nat.le_refl _) |>.mono HB1.out.size)); obtain ⟨A2, c2, rfl, _, _⟩ := bytes_of_own HO2.out; clear hown hgrow)
    | (go_at_call 12; refine (new_any _ _ l _ (bytes_of_own HO2.out) hl2).mono ?_; rintro e w3 ⟨cb, rfl, hcb, hC, hb⟩; have HO3 := Lib.hid (HO2.out.kept (row := none) ⟨hb.os, hb.tape, hb.output, hb.size, fun k hk _ => hb.block k hk⟩ (by cases Value.ownBlock _ <;> simp)); have HC3 := Lib.hid hC; have HN := Lib.hid (show w.heap.size ≤ cb by have := HB2.out.size; omega); have HN2 := Lib.hid hcb; have HB3 := Lib.hid (HB2.out.trans (hb.mono HB2.out.size)); clear hC hb hcb))
  have hA2 : l = [] ∨ ∃ g2, A2 = some ⟨g2, 0, none⟩ ∧ w1.heap.size ≤ g2 ∧ g2 < w2.heap.size := by
    rcases HO2.out.2 with ⟨_, h0⟩ | ⟨g2, cap2, cur2, hv, hg, hh, _⟩
    · exact .inl (List.length_eq_zero_iff.1 h0)
    · cases hv
      exact .inr ⟨g2, rfl, hg, block_lt hh⟩
  have HA2 := Lib.hid hA2
  clear hA2
  go_loopw [46] (fun i wr => ∃ (k : Nat) (l' : List UInt8), k ≤ l.length ∧ i = .int .i64 k ∧ Hid (l'.length = l.length) ∧ Hid (wr.ownsRow w1.heap.size 5 1 (.slice A2 l.length c2) l.length (l'.map bv)) ∧ Hid (Cur wr w2.heap.size cb l 0) ∧ Hid (Below w.heap.size w wr)) (fun i _ => (l.length - intOf i).toNat)
  case atStart => exact ⟨0, l, by omega, rfl, Lib.hid rfl, HO3, HC3, HB3⟩
  case round =>
    obtain ⟨k, l', hk, rfl, hl', hO, hC, hB⟩ := hrel
    by_cases hlt : k < l.length
    · obtain ⟨g2, rfl, hg2, hg3⟩ : ∃ g2, A2 = some ⟨g2, 0, none⟩ ∧ w1.heap.size ≤ g2 ∧ g2 < w2.heap.size := by
        rcases HA2.out with h | h
        · rw [h] at hlt; simp at hlt
        · exact h
      have hkl : k < l'.length := by rw [hl'.out]; exact hlt
      have e0 : wr.cell? ⟨g2, k, none⟩ = some (.int .u8 (l'[k].toNat : Nat)) := by
        rw [hO.out.cellAt k (by omega)]; simp [hkl, bv]
      have e1 := hO.out.frozenAt k
      have hup := bump hO.out k hkl
      have HUP := Lib.hid hup
      have hb8 := l'[k].toNat_lt
      obtain ⟨X, hX⟩ : ∃ X, X = l'[k].toNat := ⟨_, rfl⟩
      obtain ⟨l2, hl2e⟩ : ∃ l2, l2 = l'.set k (l'[k] + 1) := ⟨_, rfl⟩
      have HL2 : Hid (l2.length = l.length) := Lib.hid (by rw [hl2e, List.length_set]; exact hl'.out)
      rw [← hX, ← hl2e] at HUP
      rw [← hX] at e0 hb8
      have i1 : (0 : Int) ≤ (k : Int) := by omega
      have i2 : (k : Int) < (l.length : Int) := by omega
      have hg := Lib.hid (grown_set wr g2 k (.int .u8 (IntKind.u8.wrap ((X : Int) + 1))))
      clear hup hX hl2e
      go_wp2
      go_roundw
      case rel => exact ⟨k + 1, l2, by omega, by go_num, HL2, HUP, Lib.hid (hC.out.grown hg.out (by have := HN2.out; omega) (.inl hg3)), Lib.hid (below_grown2 hB.out hg.out hB.out.size (by have := HB1.out.size; omega))⟩
      case measure => simp [intOf]; omega
    · obtain rfl : k = l.length := by omega
      have hstr := (HB.out.later hB.out).str
      have HC4 := hC
      have HB4 := hB
      clear hC hB hO hl' hk hlt HC3 HB3 HO3 HO2 HB2 HA2
      go_wp2
      obtain ⟨rb, hrb⟩ : ∃ rb, rb = wr.heap.size := ⟨_, rfl⟩
      rw [← hrb]
      have RN := Lib.hid (show w.heap.size ≤ rb by have := HB4.out.size; omega)
      go_loopw [62] (fun i wx => ∃ j at_ : Nat, j ≤ slen ∧ i = .int .i64 j ∧ Hid (at_ ≤ l.length) ∧ Hid (Cur wx w2.heap.size cb l at_) ∧ Hid (RCur wx rb (l.drop at_) at_) ∧ Hid (Below w.heap.size w wx)) (fun i _ => (slen - intOf i).toNat)
      case atStart => exact ⟨0, 0, by omega, rfl, Lib.hid (Nat.zero_le _), Lib.hid (HC4.out.later ((Below.refl _ _).alloc (Nat.le_refl _) _)), Lib.hid (by rw [hrb]; exact heap_alloc_new _ _), Lib.hid (HB4.out.alloc HB4.out.size _)⟩
      case round =>
        obtain ⟨j, at_, hj, rfl, hat, hC, hR, hB⟩ := hrel
        clear HC4 HB4 hrb
        by_cases hlt : j < slen
        · obtain rfl : sa = some ⟨g, off, none⟩ := by
            rcases HA.out with h | h
            · omega
            · exact h
          obtain ⟨d0, d1, k0, k1, n0, n1⟩ := HS.out j hlt
          have e0 := cell_later d0 hB.out
          have e1 := cell_later d1 hB.out
          have i1 : (0 : Int) ≤ (j : Int) := by omega
          have i2 : (j : Int) < (slen : Int) := by omega
          by_cases h6 : 60 ≤ j
          · have i3 : (60 : Int) ≤ (j : Int) := by omega
            go_wp2_with (first
            | (go_at_call 13; refine (word_nil _).mono ?_; rintro e u1 ⟨rfl, q1, rfl⟩)
            | (go_at_call 16; refine (take_nil2 _).mono ?_; rintro e u2 ⟨v9, rfl, _, hb9⟩; have HT := Lib.hid hb9; clear hb9)
            | (go_at_call 20; refine (at_nil _).mono ?_; rintro e u3 ⟨rfl, rfl⟩)
            | (go_at_call 19; refine (left_nil _).mono ?_; rintro e u4 ⟨rfl, q4, rfl⟩; have HTB := Lib.hid (((hB.out.alloc hB.out.size _).trans (below_drawn _ _ _)).trans ((HT.out.mono (by have := hB.out.size; simp; omega)).trans (below_drawn _ _ q4)))))
            go_ret
            exact ⟨rfl, HTB.out⟩
          have h7 : (j : Int) < 60 := by omega
          obtain ⟨kk, hkk⟩ : ∃ kk, kk = K j := ⟨_, rfl⟩
          obtain ⟨nn, hnn⟩ : ∃ nn, nn = N j := ⟨_, rfl⟩
          rw [← hkk] at d0 e0 k0 k1
          rw [← hnn] at d1 e1 n0 n1
          clear d0 d1 hkk hnn
          have hq : (IntKind.u64.wrap kk).tmod 4 = 0 ∨ (IntKind.u64.wrap kk).tmod 4 = 1 ∨ (IntKind.u64.wrap kk).tmod 4 = 2 ∨ (IntKind.u64.wrap kk).tmod 4 = 3 := by
            rw [Int.tmod_eq_emod_of_nonneg (wrap_u64_nonneg kk)]; omega
          go_upto_region 27 with fail
          have hO := heap_alloc_new wr (.cells #[.int .i64 kk, .int .i64 nn] 31)
          have HC := Lib.hid (hC.out.later ((Below.refl _ wr).alloc (Nat.le_refl _) (.cells #[.int .i64 kk, .int .i64 nn] 31)))
          have HR := Lib.hid (hR.out.later ((Below.refl _ wr).alloc (Nat.le_refl _) (.cells #[.int .i64 kk, .int .i64 nn] 31)))
          have HB' := Lib.hid (hB.out.alloc hB.out.size (.cells #[.int .i64 kk, .int .i64 nn] 31))
          obtain ⟨ob, hob⟩ : ∃ ob, ob = wr.heap.size := ⟨_, rfl⟩
          obtain ⟨wy, hwy⟩ : ∃ wy, wy = wr.alloc (.cells #[.int .i64 kk, .int .i64 nn] 31) := ⟨_, rfl⟩
          rw [← hob] at hO ⊢
          rw [← hwy] at hO HC HR HB' ⊢
          have HO : Hid (ORow wy ob kk nn) := Lib.hid hO
          have x0 := cell_of_row _ _ 0 _ _ _ hO
          have x1 := cell_of_row _ _ 1 _ _ _ hO
          have NE := Lib.hid (cur_ne HC.out HR.out)
          have NEO := Lib.hid (ocur_ne HC.out HO.out)
          have HBarg := HB
          clear HB
          have HB := HB'
          clear HB' hC hR hB hO hob hwy e0 e1
          rcases hq with hq | hq | hq | hq
          · by_cases hm : at_ + 1 ≤ l.length
            · go_wp2_with (first
                | (go_at_call 14; refine (byte_yes2 HC.out hl2 hm).mono ?_; rintro e w5 ⟨rfl, hC5, hg⟩; have HC5 := Lib.hid hC5; have HR5 := Lib.hid (HR.out.grown hg NE.out); have HB5 := Lib.hid (below_grown2 HB.out hg HB.out.size HN.out); clear hC5 hg)
                | (go_at_call 15; refine (num_yes 1 HR5.out hl2 hm (by omega)).mono ?_; rintro e w6 ⟨rfl, hR6, hg⟩; have HR6 := Lib.hid hR6; have HC6 := Lib.hid (HC5.out.grown hg (Ne.symm NE.out) (.inr HR5.out.typed)); have HB6 := Lib.hid (below_grown2 HB5.out hg HB5.out.size RN.out); clear hR6 hg))
              have z0 := cell_of_row _ _ 0 _ _ _ HR6.out
              have z1 := cell_of_row _ _ 1 _ _ _ HR6.out
              go_quiet ((first
                | (go_at_call 20; refine Calls.quiet_of_same (at_cur2 (HC6.out.later (below_drawn _ _ _))))
                | (go_at_call 19; refine Calls.quiet_of (left_cur (HC6.out.later (below_drawn _ _ _)) hl2))))
              go_wp2_with fail
              go_roundw
              case rel => exact ⟨j + 1, at_ + 1, by omega, by go_num, Lib.hid (by have := hat.out; omega), Lib.hid (HC6.out.later (below_drawn _ _ _)), Lib.hid (HR6.out.later (below_drawn _ _ _)), Lib.hid (HB6.out.trans (below_drawn _ _ _))⟩
              case measure => simp [intOf]; omega
            · have hm2 : l.length < at_ + 1 := by omega
              go_wp2_with (first
                | (go_at_call 14; refine (byte_not2 HC.out hl2 hm2).mono ?_; rintro e w5 ⟨rfl, hb5⟩; have HC6 := Lib.hid (HC.out.later hb5); have HR6 := Lib.hid (HR.out.later hb5); have HB6 := Lib.hid (HB.out.trans (hb5.mono HB.out.size)); clear hb5)
                | (go_at_call 15; refine (refnum_not (n := 1) HR6.out (by simp; omega) (by have := hat.out; simp; omega)).mono ?_; rintro e w6 ⟨rfl, rfl⟩))
              have z0 := cell_of_row _ _ 0 _ _ _ HR6.out
              have z1 := cell_of_row _ _ 1 _ _ _ HR6.out
              go_quiet ((first
                | (go_at_call 20; refine Calls.quiet_of_same (at_cur2 (HC6.out.later (below_drawn _ _ _))))
                | (go_at_call 19; refine Calls.quiet_of (left_cur (HC6.out.later (below_drawn _ _ _)) hl2))))
              go_wp2_with fail
              go_roundw
              case rel => exact ⟨j + 1, at_, by omega, by go_num, Lib.hid (by have := hat.out; omega), Lib.hid (HC6.out.later (below_drawn _ _ _)), Lib.hid (HR6.out.later (below_drawn _ _ _)), Lib.hid (HB6.out.trans (below_drawn _ _ _))⟩
              case measure => simp [intOf]; omega
          · by_cases hm : at_ + 4 ≤ l.length
            · go_wp2_with (first
                | (go_at_call 13; refine (word_yes2 HC.out hl2 hm).mono ?_; rintro e w5 ⟨rfl, hC5, hg⟩; have HC5 := Lib.hid hC5; have HR5 := Lib.hid (HR.out.grown hg NE.out); have HB5 := Lib.hid (below_grown2 HB.out hg HB.out.size HN.out); clear hC5 hg)
                | (go_at_call 15; refine (num_yes 4 HR5.out hl2 hm (by omega)).mono ?_; rintro e w6 ⟨rfl, hR6, hg⟩; have HR6 := Lib.hid hR6; have HC6 := Lib.hid (HC5.out.grown hg (Ne.symm NE.out) (.inr HR5.out.typed)); have HB6 := Lib.hid (below_grown2 HB5.out hg HB5.out.size RN.out); clear hR6 hg))
              have z0 := cell_of_row _ _ 0 _ _ _ HR6.out
              have z1 := cell_of_row _ _ 1 _ _ _ HR6.out
              go_quiet ((first
                | (go_at_call 20; refine Calls.quiet_of_same (at_cur2 (HC6.out.later (below_drawn _ _ _))))
                | (go_at_call 19; refine Calls.quiet_of (left_cur (HC6.out.later (below_drawn _ _ _)) hl2))))
              go_wp2_with fail
              go_roundw
              case rel => exact ⟨j + 1, at_ + 4, by omega, by go_num, Lib.hid (by have := hat.out; omega), Lib.hid (HC6.out.later (below_drawn _ _ _)), Lib.hid (HR6.out.later (below_drawn _ _ _)), Lib.hid (HB6.out.trans (below_drawn _ _ _))⟩
              case measure => simp [intOf]; omega
            · have hm2 : l.length < at_ + 4 := by omega
              go_wp2_with (first
                | (go_at_call 13; refine (word_not2 HC.out hl2 hm2).mono ?_; rintro e w5 ⟨rfl, hb5⟩; have HC6 := Lib.hid (HC.out.later hb5); have HR6 := Lib.hid (HR.out.later hb5); have HB6 := Lib.hid (HB.out.trans (hb5.mono HB.out.size)); clear hb5)
                | (go_at_call 15; refine (refnum_not (n := 4) HR6.out (by simp; omega) (by have := hat.out; simp; omega)).mono ?_; rintro e w6 ⟨rfl, rfl⟩))
              have z0 := cell_of_row _ _ 0 _ _ _ HR6.out
              have z1 := cell_of_row _ _ 1 _ _ _ HR6.out
              go_quiet ((first
                | (go_at_call 20; refine Calls.quiet_of_same (at_cur2 (HC6.out.later (below_drawn _ _ _))))
                | (go_at_call 19; refine Calls.quiet_of (left_cur (HC6.out.later (below_drawn _ _ _)) hl2))))
              go_wp2_with fail
              go_roundw
              case rel => exact ⟨j + 1, at_, by omega, by go_num, Lib.hid (by have := hat.out; omega), Lib.hid (HC6.out.later (below_drawn _ _ _)), Lib.hid (HR6.out.later (below_drawn _ _ _)), Lib.hid (HB6.out.trans (below_drawn _ _ _))⟩
              case measure => simp [intOf]; omega
          · by_cases hyes : 0 ≤ nn ∧ (at_ : Int) + nn ≤ l.length
            · obtain ⟨m, rfl⟩ : ∃ m : Nat, nn = (m : Int) := ⟨nn.toNat, by omega⟩
              have hm : at_ + m ≤ l.length := by omega
              go_wp2_with (first
                | (go_at_call 16; refine (take3 m HC.out hl2 hm).mono ?_; rintro e w5 ⟨A5, c5, wm, rfl, hown, hCm, hgm, hbm⟩; have HOW5 := Lib.hid hown; have HCm := Lib.hid hCm; have HBM := Lib.hid hbm; have HRm := Lib.hid (HR.out.grown hgm NE.out); have HBm := Lib.hid (below_grown2 HB.out hgm HB.out.size HN.out); have HR5 := Lib.hid (HRm.out.later hbm); have hO5 := (HO.out.grown hgm NEO.out).later hbm; have HO5 := Lib.hid hO5; have y1 := cell_of_row _ _ 1 _ _ _ hO5; have rlt := Lib.hid (block_lt HRm.out); clear hown hCm hgm hbm hO5)
                | (go_at_call 17; refine (rtake_yes m HR5.out hl2 hm).mono ?_; rintro e w6 ⟨rfl, hR6, hg⟩; have HR6 := Lib.hid hR6; have HG6 := Lib.hid (grown_trans (below_as_grown HBM.out) hg); have hrow := HOW5.out.kept hg (.inr (fun e => by have := (HOW5.out.lt _ e).1; have := rlt.out; omega)); have HOW6 := Lib.hid hrow; have hs6 := BytesAt.str (w := w6) (l := nextB l at_ m) (bytes_of_own (v := .slice A5 m c5) (by rw [nextB_len hm]; exact hrow)); clear hR6 hg hrow))
              go_loopw [186] (fun i wr => ∃ (k : Nat) (l' : List UInt8), k ≤ m ∧ i = .int .i64 k ∧ Hid (l'.length = m) ∧ Hid (wr.ownsRow wm.heap.size 5 1 (.slice A5 m c5) m (l'.map bv)) ∧ Hid (wm.grownBy wr (some rb)) ∧ Hid (RCur wr rb (l.drop (at_ + m)) (at_ + m))) (fun i _ => (m - intOf i).toNat)
              case atStart => exact ⟨0, _, by omega, rfl, Lib.hid (nextB_len hm), HOW6, HG6, HR6⟩
              case round =>
                obtain ⟨k, l', hk, rfl, hl', hO, hG, hRz⟩ := hrel
                by_cases hlt : k < m
                · obtain ⟨g5, rfl, hg5⟩ : ∃ g5, A5 = some ⟨g5, 0, none⟩ ∧ wm.heap.size ≤ g5 := by
                    rcases hO.out.2 with ⟨_, h0⟩ | ⟨g5, cap5, cur5, hv, hg, hh, _⟩
                    · omega
                    · cases hv
                      exact ⟨g5, rfl, hg⟩
                  have hkl : k < l'.length := by rw [hl'.out]; exact hlt
                  have e0 : wr.cell? ⟨g5, k, none⟩ = some (.int .u8 (l'[k].toNat : Nat)) := by
                    rw [hO.out.cellAt k (by omega)]; simp [hkl, bv]
                  have e1 := hO.out.frozenAt k
                  have hup := bump hO.out k hkl
                  have HUP := Lib.hid hup
                  have hb8 := l'[k].toNat_lt
                  obtain ⟨X, hX⟩ : ∃ X, X = l'[k].toNat := ⟨_, rfl⟩
                  obtain ⟨l3, hl3e⟩ : ∃ l3, l3 = l'.set k (l'[k] + 1) := ⟨_, rfl⟩
                  have HL3 : Hid (l3.length = m) := Lib.hid (by rw [hl3e, List.length_set]; exact hl'.out)
                  rw [← hX, ← hl3e] at HUP
                  rw [← hX] at e0 hb8
                  have i3 : (0 : Int) ≤ (k : Int) := by omega
                  have i4 : (k : Int) < (m : Int) := by omega
                  have hgs := Lib.hid (grown_set wr g5 k (.int .u8 (IntKind.u8.wrap ((X : Int) + 1))))
                  have HGS := Lib.hid (grown_new hG.out hgs.out hg5)
                  clear hup hX hl3e
                  go_wp2_with fail
                  go_roundw
                  case rel => exact ⟨k + 1, l3, by omega, by go_num, HL3, HUP, HGS, Lib.hid (hRz.out.grown hgs.out (by have := rlt.out; omega))⟩
                  case measure => simp [intOf]; omega
                · obtain rfl : m = k := by omega
                  have HC6 := Lib.hid (HCm.out.grown hG.out (Ne.symm NE.out) (.inr (by obtain ⟨cs, t, fr, h1, h2⟩ := HRm.out.typed; exact ⟨cs, t, fr, h1, h2⟩)))
                  have HB6 := Lib.hid (below_grown2 HBm.out hG.out HBm.out.size RN.out)
                  have HR6' := HR6
                  clear HR6
                  have HR6 := hRz
                  go_wp2_with fail
                  have z0 := cell_of_row _ _ 0 _ _ _ HR6.out
                  have z1 := cell_of_row _ _ 1 _ _ _ HR6.out
                  go_quiet ((first
                    | (go_at_call 20; refine Calls.quiet_of_same (at_cur2 (HC6.out.later (below_drawn _ _ _))))
                    | (go_at_call 19; refine Calls.quiet_of (left_cur (HC6.out.later (below_drawn _ _ _)) hl2))))
                  go_wp2_with fail
                  go_roundw
                  case rel => exact ⟨j + 1, at_ + m, by omega, by go_num, Lib.hid (by have := hat.out; omega), Lib.hid (HC6.out.later (below_drawn _ _ _)), Lib.hid (HR6.out.later (below_drawn _ _ _)), Lib.hid (HB6.out.trans (below_drawn _ _ _))⟩
                  case measure => simp [intOf]; omega
            · have hnot : nn < 0 ∨ (l.length : Int) - at_ < nn := by omega
              go_wp2_with (first
                | (go_at_call 16; refine (take_not3 nn HC.out hl2 hnot).mono ?_; rintro e w5 ⟨A5, c5, rfl, hB5, hb5⟩; have hs5 := hB5.str; have HC6 := Lib.hid (HC.out.later hb5); have HR6 := Lib.hid (HR.out.later hb5); have hO5 := HO.out.later hb5; have y1 := cell_of_row _ _ 1 _ _ _ hO5; have HB6 := Lib.hid (HB.out.trans (hb5.mono HB.out.size)); clear hb5 hB5 hO5)
                | (go_at_call 17; refine (reftake_not (n := nn) HR6.out (by simp; omega) (by have := hat.out; simp; omega)).mono ?_; rintro e w6 ⟨rfl, rfl⟩))
              go_loopw [186] (fun i wz => i = .int .i64 0 ∧ wz = w5) (fun _ _ => 0)
              case atStart => exact ⟨rfl, rfl⟩
              case round =>
                obtain ⟨rfl, rfl⟩ := hrel
                go_wp2_with fail
                have z0 := cell_of_row _ _ 0 _ _ _ HR6.out
                have z1 := cell_of_row _ _ 1 _ _ _ HR6.out
                go_quiet ((first
                  | (go_at_call 20; refine Calls.quiet_of_same (at_cur2 (HC6.out.later (below_drawn _ _ _))))
                  | (go_at_call 19; refine Calls.quiet_of (left_cur (HC6.out.later (below_drawn _ _ _)) hl2))))
                go_wp2_with fail
                go_roundw
                case rel => exact ⟨j + 1, at_, by omega, by go_num, Lib.hid (by have := hat.out; omega), Lib.hid (HC6.out.later (below_drawn _ _ _)), Lib.hid (HR6.out.later (below_drawn _ _ _)), Lib.hid (HB6.out.trans (below_drawn _ _ _))⟩
                case measure => simp [intOf]; omega
          · by_cases hyes : 0 ≤ nn ∧ (at_ : Int) + nn ≤ l.length
            · obtain ⟨m, rfl⟩ : ∃ m : Nat, nn = (m : Int) := ⟨nn.toNat, by omega⟩
              have hm : at_ + m ≤ l.length := by omega
              obtain ⟨R, hRR⟩ : ∃ R, R = nextB l at_ m := ⟨_, rfl⟩
              have hRl : R.length = m := by rw [hRR, nextB_len hm]
              have hRl2 : R.length ≤ 4294967296 := by omega
              have hRA : nextB R 0 m = R := by rw [← hRl]; exact next_all R
              have HRR := Lib.hid hRR
              have HRA := Lib.hid hRA
              clear hRR hRA
              go_wp2_with (first
                | (go_at_call 18; refine (sub_yes m HC.out hl2 hm).mono ?_; rw [← HRR.out]; rintro e w5 ⟨sb, rfl, hsb, hS, hC5, hg⟩; have HS5 := Lib.hid hS; have HC5 := Lib.hid hC5; have HR5 := Lib.hid (HR.out.grown hg NE.out); have hO5 := HO.out.grown hg NEO.out; have HO5 := Lib.hid hO5; have y1 := cell_of_row _ _ 1 _ _ _ hO5; have SN := Lib.hid (show w.heap.size ≤ sb by have := HB.out.size; omega); have SC := Lib.hid (show sb ≠ cb by have := HC.out.lt; omega); have HB5 := Lib.hid (below_grown2 HB.out hg HB.out.size HN.out); clear hS hC5 hg hO5 hsb)
                | (go_at_call 17; refine (rtake_yes m HR5.out hl2 hm).mono ?_; rw [← HRR.out]; rintro e w6 ⟨rfl, hR6, hg⟩; have HRa := Lib.hid hR6; have HSa := Lib.hid (HS5.out.grown hg (Ne.symm (cur_ne HS5.out HR5.out)) (.inr HR5.out.typed)); have HCa := Lib.hid (HC5.out.grown hg (Ne.symm NE.out) (.inr HR5.out.typed)); have HBa := Lib.hid (below_grown2 HB5.out hg HB5.out.size RN.out); clear hR6 hg)
                | (go_at_call 19; refine (left_full HSa.out hRl2).mono ?_; rw [hRl]; rintro e w7 ⟨rfl, hb⟩; have HRb := Lib.hid (HRa.out.later hb); have HSb := Lib.hid (HSa.out.later hb); have HCb := Lib.hid (HCa.out.later hb); have HBb := Lib.hid (HBa.out.trans (hb.mono HBa.out.size)); clear hb)
                | (go_at_call 20; refine (at_cur HSb.out).mono ?_; rintro e w8 ⟨rfl, rfl⟩)
                | (go_at_call 16; refine (take3 m HSb.out hRl2 (by omega)).mono ?_; rw [HRA.out]; rintro e w9 ⟨A5, c5, wm, rfl, hown, hSm, hgm, hbm⟩; have HQ9 := Lib.hid (bytes_of_own (w := w9) (v := .slice A5 m c5) (l := R) (by rw [hRl]; exact hown)); have HS9 := Lib.hid (hSm.later hbm); have HC9 := Lib.hid ((HCb.out.grown hgm SC.out (.inr HSb.out.typed)).later hbm); have HR9 := Lib.hid ((HRb.out.grown hgm (cur_ne HSb.out HRb.out)).later hbm); have HBm := below_grown2 HBb.out hgm HBb.out.size SN.out; have HB9 := Lib.hid (HBm.trans (hbm.mono HBm.size)); clear hown hSm hgm hbm HBm)
                | (go_at_call 14; refine (byte_not2 HS9.out hRl2 (by omega)).mono ?_; rintro e w10 ⟨rfl, hb⟩; have HC6 := Lib.hid (HC9.out.later hb); have HR6 := Lib.hid (HR9.out.later hb); have HB6 := Lib.hid (HB9.out.trans (hb.mono HB9.out.size)); have hs10 := (HQ9.out.later hb).str; clear hb))
              have z0 := cell_of_row _ _ 0 _ _ _ HR6.out
              have z1 := cell_of_row _ _ 1 _ _ _ HR6.out
              go_quiet ((first
                | (go_at_call 20; refine Calls.quiet_of_same (at_cur2 (HC6.out.later (below_drawn _ _ _))))
                | (go_at_call 19; refine Calls.quiet_of (left_cur (HC6.out.later (below_drawn _ _ _)) hl2))))
              go_wp2_with fail
              go_roundw
              case rel => exact ⟨j + 1, at_ + m, by omega, by go_num, Lib.hid (by have := hat.out; omega), Lib.hid (HC6.out.later (below_drawn _ _ _)), Lib.hid (HR6.out.later (below_drawn _ _ _)), Lib.hid (HB6.out.trans (below_drawn _ _ _))⟩
              case measure => simp [intOf]; omega
            · have hnot : nn < 0 ∨ (l.length : Int) - at_ < nn := by omega
              go_wp2_with (first
                | (go_at_call 18; refine (sub_not2 nn HC.out hl2 hnot).mono ?_; rintro e w5 ⟨rfl, hb5⟩; have HC5 := Lib.hid (HC.out.later hb5); have HR5 := Lib.hid (HR.out.later hb5); have hO5 := HO.out.later hb5; have y1 := cell_of_row _ _ 1 _ _ _ hO5; have HB5 := Lib.hid (HB.out.trans (hb5.mono HB.out.size)); clear hb5 hO5)
                | (go_at_call 17; refine (reftake_not (n := nn) HR5.out (by simp; omega) (by have := hat.out; simp; omega)).mono ?_; rintro e w6 ⟨rfl, rfl⟩)
                | (go_at_call 19; refine (left_nil2 _).mono ?_; rintro e w7 ⟨rfl, hb⟩; have HCb := Lib.hid (HC5.out.later hb); have HRb := Lib.hid (HR5.out.later hb); have HBb := Lib.hid (HB5.out.trans (hb.mono HB5.out.size)); clear hb)
                | (go_at_call 20; refine (at_nil _).mono ?_; rintro e w8 ⟨rfl, rfl⟩)
                | (go_at_call 16; refine (take_nil3 _).mono ?_; rintro e w9 ⟨A5, c5, rfl, hB9, hb⟩; have HQ9 := Lib.hid hB9; have HCc := Lib.hid (HCb.out.later hb); have HRc := Lib.hid (HRb.out.later hb); have HBc := Lib.hid (HBb.out.trans (hb.mono HBb.out.size)); clear hB9 hb)
                | (go_at_call 14; refine (byte_nil2 _).mono ?_; rintro e w10 ⟨rfl, hb⟩; have HC6 := Lib.hid (HCc.out.later hb); have HR6 := Lib.hid (HRc.out.later hb); have HB6 := Lib.hid (HBc.out.trans (hb.mono HBc.out.size)); have hs10 := (HQ9.out.later hb).str; clear hb))
              have z0 := cell_of_row _ _ 0 _ _ _ HR6.out
              have z1 := cell_of_row _ _ 1 _ _ _ HR6.out
              go_quiet ((first
                | (go_at_call 20; refine Calls.quiet_of_same (at_cur2 (HC6.out.later (below_drawn _ _ _))))
                | (go_at_call 19; refine Calls.quiet_of (left_cur (HC6.out.later (below_drawn _ _ _)) hl2))))
              go_wp2_with fail
              go_roundw
              case rel => exact ⟨j + 1, at_, by omega, by go_num, Lib.hid (by have := hat.out; omega), Lib.hid (HC6.out.later (below_drawn _ _ _)), Lib.hid (HR6.out.later (below_drawn _ _ _)), Lib.hid (HB6.out.trans (below_drawn _ _ _))⟩
              case measure => simp [intOf]; omega
        · obtain rfl : j = slen := by omega
          go_wp2_with (first
            | (go_at_call 13; refine (word_nil _).mono ?_; rintro e u1 ⟨rfl, q1, rfl⟩)
            | (go_at_call 16; refine (take_nil2 _).mono ?_; rintro e u2 ⟨v9, rfl, _, hb9⟩; have HT := Lib.hid hb9; clear hb9)
            | (go_at_call 20; refine (at_nil _).mono ?_; rintro e u3 ⟨rfl, rfl⟩)
            | (go_at_call 19; refine (left_nil _).mono ?_; rintro e u4 ⟨rfl, q4, rfl⟩; have HTB := Lib.hid ((hB.out.trans (below_drawn _ _ _)).trans ((HT.out.mono (by have := hB.out.size; simpa using this)).trans (below_drawn _ _ q4)))))
          go_ret
          exact ⟨rfl, HTB.out⟩
end Go.Proofs.Ytbekkdlgibijdaa.cutReads
