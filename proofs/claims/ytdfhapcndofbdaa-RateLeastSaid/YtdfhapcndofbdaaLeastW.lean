/- The law RateLeast: its walk. -/
import Derived.Test.YtdfhapcndofbdaaPicksW
namespace Go.Proofs.Ytdfhapcndofbdaa.rateLeast
open Go.RowKit

/-- a step of the sizes -/
def stp (z : List Int) (l : Nat) (q : Nat) : Int := if l = 0 then 0 else z.getD (q % l) 0
/-- the sum of the steps of the d coarsest -/
def sumU (z : List Int) (l : Nat) : Nat → Int
  | 0 => 0
  | d + 1 => sumU z l d + stp z l (60 - d)
def Small (z : List Int) (l : Nat) : Prop := ∀ i, i < l → 0 ≤ z.getD i 0 ∧ z.getD i 0 ≤ 65535
theorem stp_bd {z : List Int} {l : Nat} (h : Small z l) (q : Nat) : 0 ≤ stp z l q ∧ stp z l q ≤ 65535 := by
  unfold stp
  split
  · omega
  · exact h _ (Nat.mod_lt _ (by omega))
theorem sumU_bd {z : List Int} {l : Nat} (h : Small z l) : ∀ d : Nat, 0 ≤ sumU z l d ∧ sumU z l d ≤ 65535 * d
  | 0 => by simp [sumU]
  | d + 1 => by
    have := sumU_bd h d
    have := stp_bd h (60 - d)
    unfold sumU; omega
def arrU (z : List Int) (l d : Nat) : Array Value := ((List.range 61).map fun (j : Nat) => if 61 ≤ j + d then Value.int .i64 (sumU z l (61 - j)) else .int .i64 0).toArray
theorem arrU_size (z : List Int) (l d : Nat) : (arrU z l d).size = 61 := by simp [arrU]
theorem arrU_get (z : List Int) (l d j : Nat) (h : j < 61) : (arrU z l d)[j]? = some (if 61 ≤ j + d then Value.int .i64 (sumU z l (61 - j)) else .int .i64 0) := by
  simp [arrU, h]
theorem arrU_set (z : List Int) (l d : Nat) (hd : d < 61) : (arrU z l d).setIfInBounds (60 - d) (.int .i64 (sumU z l (d + 1))) = arrU z l (d + 1) := by
  apply Array.ext
  · simp [arrU]
  · intro i h1 h2
    simp only [Array.size_setIfInBounds, arrU_size] at h1
    rw [Array.getElem_setIfInBounds (by rw [arrU_size]; exact h1)]
    simp only [arrU]
    by_cases h : 60 - d = i
    · rw [if_pos h]
      simp only [List.getElem_toArray, List.getElem_map, List.getElem_range]
      rw [if_pos (by omega), show 61 - i = d + 1 by omega]
    · rw [if_neg h]
      simp only [List.getElem_toArray, List.getElem_map, List.getElem_range]
      by_cases h3 : 61 ≤ i + d
      · rw [if_pos h3, if_pos (by omega)]
      · rw [if_neg h3, if_neg (by omega)]
theorem arrU_0 (z : List Int) (l : Nat) : arrU z l 0 = Array.replicate 61 (.int .i64 0) := by
  apply Array.ext
  · simp [arrU]
  · intro i h1 h2
    simp only [arrU_size] at h1
    simp only [arrU, List.getElem_toArray, List.getElem_map, List.getElem_range, Array.getElem_replicate]
    rw [if_neg (by omega)]

/-- A picture that fits its room: the credit that is left. -/
theorem fits {t c n f : Int} (h1 : 1 ≤ t) (ht : t ≤ 65536) (hc0 : -8 * t ≤ c) (hc1 : c ≤ 8 * t) (f0 : 0 ≤ f) (f1 : f ≤ 255) (hn : n = roomI t c * f / 255) : 0 ≤ n ∧ n ≤ 2 * t ∧ n + spentI t c n ≤ c + t := by
  have hr : 0 ≤ roomI t c ∧ roomI t c ≤ 2 * t ∧ (c ≤ 0 → roomI t c ≤ t) := by
    unfold roomI nearN
    (repeat' split) <;> omega
  have h2 : 0 ≤ roomI t c * f := Int.mul_nonneg hr.1 f0
  have h3 : roomI t c * f ≤ roomI t c * 255 := Int.mul_le_mul_of_nonneg_left f1 hr.1
  have hn0 : 0 ≤ n := by omega
  have hn1 : n ≤ roomI t c := by omega
  refine ⟨hn0, by omega, ?_⟩
  unfold spentI nearN
  (repeat' split) <;> omega
theorem kt_bd {k : Nat} {t : Int} (hk : k ≤ 200) (h1 : 1 ≤ t) (h2 : t ≤ 65536) : 0 ≤ (k : Int) * t ∧ (k : Int) * t ≤ 200 * 65536 :=
  ⟨Int.mul_nonneg (by omega) (by omega), Int.mul_le_mul (by omega) h2 (by omega) (by omega)⟩
theorem rf_bd {t c f : Int} (h1 : 1 ≤ t) (h2 : t ≤ 65536) (f0 : 0 ≤ f) (f1 : f ≤ 255) : 0 ≤ roomI t c * f ∧ roomI t c * f ≤ 131072 * 255 := by
  have hr : 0 ≤ roomI t c ∧ roomI t c ≤ 2 * t := by
    unfold roomI nearN
    (repeat' split) <;> omega
  exact ⟨Int.mul_nonneg hr.1 f0, Int.mul_le_mul (by omega) f1 f0 (by omega)⟩

/-- Pick over the sizes in s: what the law asks of its answer. -/
theorem pick_least (t : Int) (f : Nat → Int) (ps g : Nat) (w : World) (hbox : w.cell? ⟨ps, 0, none⟩ = some (.slice (some ⟨g, 0, none⟩) 61 61)) (hrow : ∀ j : Nat, j < 61 → w.cell? ⟨g, j, none⟩ = some (.int .i64 (f j))) :
    Calls Try.prog 15 #[.int .i64 t, .func (.func 18) #[] #[.pointer (some ⟨ps, 0, none⟩)]] w fun e w' => ∃ r S1 S2, e = .returned (.int .i64 r) ∧ w' = w ∧ 0 ≤ r ∧ r ≤ 60 ∧
      w.cell? ⟨g, r.toNat, none⟩ = some (.int .i64 S1) ∧ w.cell? ⟨g, r.toNat - 1, none⟩ = some (.int .i64 S2) ∧ (60 ≤ r ∨ S1 ≤ t) ∧ (r ≤ 0 ∨ t < S2) := by
  refine (pick_any t (fun q => f q.toNat) 18 #[.pointer (some ⟨ps, 0, none⟩)] w (fun w' => w' = w) (fun _ _ => True) (fun q w1 q0 q1 hw => ?_) (fun _ _ => by kernel_rfl) rfl).mono ?_
  · subst hw
    exact (least1_any (fun q => f q.toNat) ps g q w1 hbox q0 q1 (hrow q.toNat (by omega))).mono fun e w2 h => ⟨h.1, h.2, trivial, fun _ _ => trivial⟩
  · rintro e w5 ⟨r, rfl, hr, hr0, hr1, rfl, hlo, hhi⟩
    refine ⟨r, _, _, rfl, rfl, hr0, hr1, hrow r.toNat (by omega), hrow (r.toNat - 1) (by omega), ?_, ?_⟩
    · by_cases h : r < 60
      · exact .inr (hlo h).2
      · exact .inl (by omega)
    · by_cases h : 0 < r
      · refine .inr ?_
        have := (hhi h).2
        rwa [show (r - 1).toNat = r.toNat - 1 by omega] at this
      · exact .inl (by omega)

set_option maxRecDepth 20000 in
set_option maxHeartbeats 8000000 in
theorem walk (w : World) (a0 : Option Addr) (len0 cap0 : Nat) (z0 : List Int) (w0 : IsRow .u16 w a0 len0 cap0 z0) (tt : Int) (wt : (Lit.int .u16 tt).wf = true)
    (a2 : Option Addr) (len2 cap2 : Nat) (z2 : List Int) (w2 : IsRow .u8 w a2 len2 cap2 z2) :
    Calls Try.prog 5 #[.slice a0 len0 cap0, .int .u16 tt, .slice a2 len2 cap2] w fun e w' => e = .returned (.bool true) ∧ Below w.heap.size w w' := by
  simp only [Lit.wf, Bool.and_eq_true, decide_eq_true_eq] at wt
  have ht : 0 ≤ tt ∧ tt ≤ 65535 := wt
  clear wt
  obtain ⟨ht0, ht1⟩ := ht
  have hlen := w0.len
  obtain ⟨b0, off0, hx0, HC0⟩ := w0.at
  have hmin : IntKind.u16.min = 0 := rfl
  have hmax : IntKind.u16.max = 65535 := rfl
  rw [hmin, hmax] at HC0
  have hlen2 := w2.len
  obtain ⟨b2, off2, hx2, HC2⟩ := w2.at
  have hmin2 : IntKind.u8.min = 0 := rfl
  have hmax2 : IntKind.u8.max = 255 := rfl
  rw [hmin2, hmax2] at HC2
  clear hmin hmax hmin2 hmax2
  have hsm : Small z0 len0 := fun i hi => (HC0 i hi).2
  have HSM := Lib.hid hsm
  have HC0 := Lib.hid HC0
  have HX0 := Lib.hid hx0
  have HC2 := Lib.hid HC2
  have HX2 := Lib.hid hx2
  clear hx0 hx2 w0 w2 hsm
  have hB := Below.refl w.heap.size w
  go_enter Try.func5, Try.ntmps5
  go_wp2_with (first
    | (go_at_call 7; refine (first_any _).mono ?_; rintro e w2 ⟨rfl, hb2⟩; have hB := below2 hB hb2; clear hb2)
    | rw [make_ints])
  have hr0 : ((w2.alloc (.cells (Array.replicate 61 (.int .i64 0)) 3)).alloc (.cells #[.slice (some ⟨w2.heap.size, 0, none⟩) 61 61] 22)).heap[w2.heap.size]? = some (.cells (arrU z0 len0 0) 3 (0, 0)) := by
    rw [arrU_0]
    exact (Below.heap_alloc _ _ _ (by simp)).trans (heap_alloc_new w2 _)
  have hp0 : ((w2.alloc (.cells (Array.replicate 61 (.int .i64 0)) 3)).alloc (.cells #[.slice (some ⟨w2.heap.size, 0, none⟩) 61 61] 22)).cell? ⟨w2.heap.size + 1, 0, none⟩ = some (.slice (some ⟨w2.heap.size, 0, none⟩) 61 61) := by
    have := heap_alloc_new (w2.alloc (.cells (Array.replicate 61 (.int .i64 0)) 3)) (.cells #[.slice (some ⟨w2.heap.size, 0, none⟩) 61 61] 22)
    rw [show (w2.alloc (.cells (Array.replicate 61 (.int .i64 0)) 3)).heap.size = w2.heap.size + 1 by simp] at this
    exact cell_of_row _ _ 0 _ _ _ this
  have hs := hB.size
  have hB2 : Below w.heap.size w ((w2.alloc (.cells (Array.replicate 61 (.int .i64 0)) 3)).alloc (.cells #[.slice (some ⟨w2.heap.size, 0, none⟩) 61 61] 22)) := (hB.alloc hs _).alloc (by simp; omega) _
  generalize (w2.alloc (.cells (Array.replicate 61 (.int .i64 0)) 3)).alloc (.cells #[.slice (some ⟨w2.heap.size, 0, none⟩) 61 61] 22) = W0 at hr0 hp0 hB2 ⊢
  generalize hg : w2.heap.size = g at hr0 hp0 hs ⊢
  generalize hps : g + 1 = ps at hp0 ⊢
  clear hg hB
  go_loopw [8, 9] (fun n i wr => ∃ (d : Nat) (x : Int), d ≤ 61 ∧ x = 60 - d ∧ n = .int .i64 (sumU z0 len0 d) ∧ i = .int .i64 x ∧ wr.heap[g]? = some (.cells (arrU z0 len0 d) 3 (0, 0)) ∧ wr.cell? ⟨ps, 0, none⟩ = some (.slice (some ⟨g, 0, none⟩) 61 61) ∧ Below w.heap.size w wr) (fun _ i _ => (intOf i + 1).toNat)
  case atStart => exact ⟨0, 60, by omega, by omega, rfl, rfl, hr0, hp0, hB2⟩
  case round =>
    clear hr0 hp0 hB2
    obtain ⟨d, x, hd, hx, rfl, rfl, hrow, hbox, hB⟩ := hrel
    have HB := Lib.hid hB
    have HR := Lib.hid hrow
    have hsb := sumU_bd HSM.out d
    by_cases hlt : d < 61
    · have hx0 : 0 ≤ x := by omega
      have hxn : x.toNat = 60 - d := by omega
      have hc := cell_of_row wr g x.toNat _ _ _ hrow
      rw [arrU_get _ _ _ _ (by omega), if_neg (by omega)] at hc
      have hf := frozen_of_row wr g x.toNat _ _ hrow
      clear hrow
      have hsu : sumU z0 len0 (d + 1) = sumU z0 len0 d + stp z0 len0 (60 - d) := rfl
      have hst := stp_bd HSM.out (60 - d)
      have HSU := Lib.hid hsu
      clear hsu
      have hnew : ∀ v, v = sumU z0 len0 (d + 1) → (wr.setCell ⟨g, x.toNat, none⟩ (.int .i64 v)).heap[g]? = some (.cells (arrU z0 len0 (d + 1)) 3 (0, 0)) := fun v hv => by
        subst hv
        rw [hxn]
        have := heap_setCell_same wr g (60 - d) _ _ (.int .i64 (sumU z0 len0 (d + 1))) HR.out
        rw [arrU_set _ _ _ hlt] at this
        exact this
      have HNEW := Lib.hid hnew
      clear hnew
      have hgp : ps ≠ g := by omega
      have hx60 : x ≤ 60 := by omega
      have HXX := Lib.hid hx
      by_cases hl : len0 = 0
      · subst hl
        have hst0 : stp z0 0 (60 - d) = 0 := by unfold stp; rw [if_pos rfl]
        clear hB hx hxn hgp
        go_wp2
        go_roundw
        case rel => exact ⟨d + 1, x - 1, by omega, by have := HXX.out; omega, by rw [HSU.out, hst0, Int.add_zero], rfl, HNEW.out _ (by rw [HSU.out, hst0, Int.add_zero]), ratePicks.cell_other hbox (by omega), HB.out.setCell (p := ⟨g, x.toNat, none⟩) hs _⟩
        case measure => simp [intOf]; omega
      · obtain rfl : a0 = some ⟨b0, off0, none⟩ := by
          rcases HX0.out with h | h
          · omega
          · exact h
        obtain ⟨hn', hn0, hn1⟩ := HC0.out (x.toNat % len0) (Nat.mod_lt _ (by omega))
        have hn := (hB.cell (block_lt_of_cell hn')).trans hn'
        have hm : x.tmod (len0 : Int) = ((x.toNat % len0 : Nat) : Int) := by
          rw [Int.tmod_eq_emod_of_nonneg hx0, Int.natCast_emod, Int.toNat_of_nonneg hx0]
        have hlm : x.toNat % len0 < len0 := Nat.mod_lt _ (by omega)
        have hz : z0.getD (x.toNat % len0) 0 = stp z0 len0 (60 - d) := by unfold stp; rw [if_neg hl, hxn]
        rw [hz] at hn
        clear hn' hB hz hn0 hn1
        have hl' : ¬ (len0 : Int) = 0 := by omega
        have hl1 : 0 < (len0 : Int) := by omega
        have hm' := Lib.hid hm
        have hxm : (x % (len0 : Int)).toNat = x.toNat % len0 := by
          rw [← Int.tmod_eq_emod_of_nonneg hx0, hm]; rfl
        rw [← hxm] at hn
        have hxm0 : 0 ≤ x % (len0 : Int) := Int.emod_nonneg _ hl'
        have hxm1 : x % (len0 : Int) < len0 := Int.emod_lt_of_pos _ hl1
        clear hxm
        clear hm hx hxn hgp
        go_wp2
        go_roundw
        case rel => exact ⟨d + 1, x - 1, by omega, by have := HXX.out; omega, by rw [HSU.out], rfl, HNEW.out _ HSU.out.symm, ratePicks.cell_other hbox (by omega), HB.out.setCell (p := ⟨g, x.toNat, none⟩) hs _⟩
        case measure => simp [intOf]; omega
    · obtain rfl : d = 61 := by omega
      have hrow2 : ∀ j : Nat, j < 61 → wr.cell? ⟨g, j, none⟩ = some (.int .i64 (sumU z0 len0 (61 - j))) := fun j hj => by
        have := cell_of_row wr g j _ _ _ hrow
        rw [arrU_get _ _ _ _ hj, if_pos (by omega)] at this
        exact this
      have HRW := Lib.hid hrow2
      clear hrow2 hrow hB
      go_wp2_with (first
        | (go_at_call 15; refine (pick_least _ (fun j => sumU z0 len0 (61 - j)) ps g wr hbox HRW.out).mono ?_; rintro e w5 ⟨r, S1, S2, rfl, rfl, hr0, hr1, ki1, ki2, hS1, hS2⟩)
        | (go_at_call 8; refine (new_yes _ _ (by omega) (by omega)).mono ?_; rintro e w1 ⟨rfl, rfl⟩))
      all_goals
        clear hS1 hS2 ki1 ki2
        have hB3 : Below w.heap.size w (w5.alloc (.cells #[.int .i64 (1 + tt), .int .i64 0] 43)) := HB.out.alloc HB.out.size _
        have hC3 : Ctl 43 (w5.alloc (.cells #[.int .i64 (1 + tt), .int .i64 0] 43)) w5.heap.size (1 + tt) 0 := heap_alloc_new w5 _
        have hs5 := HB.out.size
        generalize w5.alloc (.cells #[.int .i64 (1 + tt), .int .i64 0] 43) = W6 at hB3 hC3 ⊢
        generalize w5.heap.size = n1 at hC3 hs5 ⊢
        obtain ⟨t, ht⟩ : ∃ t, t = 1 + tt := ⟨_, rfl⟩
        rw [← ht] at hC3 ⊢
        have h1 : 1 ≤ t := by omega
        have h2 : t ≤ 65536 := by omega
        clear ht hbox HR HRW
        go_loopw [13, 14, 75] (fun sm kk i wr => ∃ (k : Nat) (c s : Int), k ≤ len2 ∧ k ≤ 200 ∧ sm = .int .i64 s ∧ kk = .int .i64 k ∧ i = .int .i64 k ∧ -8 * t ≤ c ∧ c ≤ 8 * t ∧ 0 ≤ s ∧ s + c ≤ k * t ∧ Ctl 43 wr n1 t c ∧ Below w.heap.size w wr) (fun _ _ i _ => (len2 - intOf i).toNat)
        case atStart => exact ⟨0, 0, 0, by omega, by omega, rfl, rfl, rfl, by omega, by omega, by omega, by omega, hC3, hB3⟩
        case round =>
          clear hB3 hC3
          obtain ⟨k, c, s, hk, hk2, rfl, rfl, rfl, hc0, hc1, hs0, hsc, hC, hB⟩ := hrel
          have HC := Lib.hid hC
          have HB := Lib.hid hB
          clear hC
          have kb := kt_bd hk2 h1 h2
          have e16 : ((k : Int) + 16) * t = k * t + 16 * t := by rw [Int.add_mul]
          have q0 : 0 ≤ ((k : Int) + 16) * t := by omega
          have q1 : ((k : Int) + 16) * t ≤ 14155776 := by omega
          have hend : s ≤ ((k : Int) + 16) * t := by omega
          have HE := Lib.hid hend
          clear e16 hend
          by_cases hlt : k < len2
          · obtain ⟨hn', f0, f1⟩ := HC2.out k hlt
            have hn := (hB.cell (block_lt_of_cell hn')).trans hn'
            clear hn' hB
            generalize z2.getD k 0 = f at hn f0 f1
            obtain rfl : a2 = some ⟨b2, off2, none⟩ := by
              rcases HX2.out with h | h
              · omega
              · exact h
            obtain ⟨rf0, rf1⟩ := rf_bd (c := c) h1 h2 f0 f1
            have hfit := fits (n := roomI t c * f / 255) h1 h2 hc0 hc1 f0 f1 rfl
            have e1 : ((k : Int) + 1) * t = k * t + t := by rw [Int.add_mul, Int.one_mul]
            have E1 := Lib.hid e1
            clear e1
            go_wp2_with (first
              | (go_at_call 10; refine (room_any _ t c _ HC.out h1 (by omega) (by omega) (by omega)).mono ?_; rintro e w1 ⟨rfl, q1, rfl⟩)
              | (go_at_call 9; refine (spent_any _ t c _ _ (HC.out.drewN _) h1 (by omega) (by omega) (by omega)).mono ?_; rintro e w1 ⟨rfl, rfl⟩))
            · go_ret
              exact ⟨retb_eq (decide_eq_true HE.out), HB.out⟩
            · have hsb := spent_bd (t := t) (c := c) (n := roomI t c * f / 255) h1
              obtain ⟨g0, g1, g2⟩ := hfit
              refine ⟨⟨k + 1, spentI t c (roomI t c * f / 255), s + roomI t c * f / 255, by omega, by omega, rfl, by go_num, by go_num, hsb.1, hsb.2, by omega, ?_, (ctl_set (HC.out.drewN _)).drewN 1, below_drewN ((below_drewN HB.out _).setCell (p := ⟨n1, 1, none⟩) hs5 _) 1⟩, by simp [intOf]; omega⟩
              have := E1.out
              rw [show (((k + 1 : Nat)) : Int) = (k : Int) + 1 by omega, this]
              omega
          · clear hB
            go_wp2
            go_ret
            exact ⟨retb_eq (decide_eq_true HE.out), HB.out⟩
end Go.Proofs.Ytdfhapcndofbdaa.rateLeast
