/- The law RateStays: its walk. -/
import Derived.Test.YtdfhapcndofbdaaSl
import Derived.Sort.AtCall
namespace Go.Proofs.Ytdfhapcndofbdaa.rateStays
open Go.RowKit

theorem near_mono {v v' a b : Int} (h : v ≤ v') (hab : a ≤ b) : nearN v a b ≤ nearN v' a b := by unfold nearN; (repeat' split) <;> omega
theorem room_mono {t c d : Int} (h1 : 1 ≤ t) (h : c ≤ d) : roomI t c ≤ roomI t d := near_mono (by omega) (by omega)
theorem room_bd {t c : Int} (h1 : 1 ≤ t) : (t + 1) / 2 ≤ roomI t c ∧ roomI t c ≤ 2 * t := by
  have := near_bd (v := t + c / 4) (a := t - t / 2) (b := 2 * t) (by omega)
  unfold roomI; omega
theorem spent_mono {t c d n m : Int} (h1 : 1 ≤ t) (h : c ≤ d) (hn : m ≤ n) : spentI t c n ≤ spentI t d m := by
  have := near_mono (a := 0) (b := 1073741824) hn (by omega)
  exact near_mono (by omega) (by omega)

theorem spent_v (b : Nat) (t c n : Int) (w : World) (hC : Ctl 43 w b t c) (t0 : 1 ≤ t) (t1 : t ≤ 1048576) (c0 : -8 * t ≤ c) (c1 : c ≤ 8 * t) :
    Calls Try.prog 9 #[.pointer (some ⟨b, 0, none⟩), .int .i64 n] w fun e w' => e = .returned (.tuple #[]) ∧ ∃ c', Hid (c' = spentI t c n) ∧ w' = (w.setCell ⟨b, 1, none⟩ (.int .i64 c')).drewN 1 :=
  (spent_any b t c n w hC t0 t1 c0 c1).mono fun _ _ h => ⟨h.1, _, Lib.hid rfl, h.2⟩

theorem spent_two (w wr : World) (n1 : Nat) (t c d c' n n' : Int) (hs : w.heap.size ≤ n1) (hC1 : Ctl 43 wr n1 t c) (hC2 : Ctl 43 wr (n1 + 1) t d) (hB : Below w.heap.size w wr)
    (h1 : 1 ≤ t) (h2 : t ≤ 1048576) (hc0 : -8 * t ≤ c) (hcd : c ≤ d) (hd1 : d ≤ 8 * t) (hc' : Hid (c' = spentI t c n)) (hn : n' ≤ n) :
    Calls Try.prog 9 #[.pointer (some ⟨n1 + 1, 0, none⟩), .int .i64 n'] ((wr.setCell ⟨n1, 1, none⟩ (.int .i64 c')).drewN 1) fun e w' => e = .returned (.tuple #[]) ∧ ∃ d',
      c' ≤ d' ∧ -8 * t ≤ c' ∧ d' ≤ 8 * t ∧ (t + 1) / 2 ≤ roomI t c' ∧ roomI t c' ≤ 2 * t ∧ (t + 1) / 2 ≤ roomI t d' ∧ roomI t d' ≤ 2 * t ∧ roomI t c' ≤ roomI t d' ∧ Hid (Ctl 43 w' n1 t c') ∧ Hid (Ctl 43 w' (n1 + 1) t d') ∧ Hid (Below w.heap.size w w') := by
  have hc' := hc'.out
  refine (spent_any _ t d n' _ ((ctl_other (b' := n1) hC2 (by omega) 1 _).drewN 1) h1 h2 (by omega) hd1).mono ?_
  rintro e w1 ⟨rfl, rfl⟩
  have hm : c' ≤ spentI t d n' := by rw [hc']; exact spent_mono h1 hcd hn
  refine ⟨rfl, spentI t d n', hm, by rw [hc']; exact (spent_bd h1).1, (spent_bd h1).2, (room_bd h1).1, (room_bd h1).2, (room_bd h1).1, (room_bd h1).2, room_mono h1 hm, Lib.hid ?_, Lib.hid ?_, Lib.hid ?_⟩
  · exact ctl_other ((ctl_set hC1).drewN 1) (by omega) 1 _
  · exact ctl_set (c := d) ((ctl_other (b' := n1) hC2 (by omega) 1 _).drewN 1)
  · exact below_drewN (Below.setCell (below_drewN (Below.setCell hB (p := ⟨n1, 1, none⟩) hs _) 1) (p := ⟨n1 + 1, 1, none⟩) (by show w.heap.size ≤ n1 + 1; omega) _) 1

set_option maxHeartbeats 2000000 in
theorem walk (w : World) (tt : Int) (wt : (Lit.int .u16 tt).wf = true) (a0 : Option Addr) (len0 cap0 : Nat) (z0 : List Int) (w0 : IsRow .i64 w a0 len0 cap0 z0) (less : Int) (wl : (Lit.int .u16 less).wf = true) :
    Calls Try.prog 6 #[.int .u16 tt, .slice a0 len0 cap0, .int .u16 less] w fun e w' => e = .returned (.bool true) ∧ Below w.heap.size w w' := by
  simp only [Lit.wf, Bool.and_eq_true, decide_eq_true_eq] at wt wl
  have ht : 0 ≤ tt ∧ tt ≤ 65535 := wt
  have hl : 0 ≤ less ∧ less ≤ 65535 := wl
  clear wt wl
  obtain ⟨ht0, ht1⟩ := ht
  obtain ⟨hl0, hl1⟩ := hl
  have hlen := w0.len
  obtain ⟨b, off, hx, HC⟩ := w0.at
  have HC1 := Lib.hid HC
  have HX := Lib.hid hx
  clear hx w0 HC
  have hB := Below.refl w.heap.size w
  go_enter Try.func6, Try.ntmps6
  go_wp2_with (first
    | (go_at_call 7; refine (first_any _).mono ?_; rintro e w2 ⟨rfl, hb2⟩; have hB := below2 hB hb2; clear hb2)
    | (go_at_call 8; refine (new_yes _ _ (by omega) (by omega)).mono ?_; rintro e w1 ⟨rfl, rfl⟩))
  obtain ⟨t, htt⟩ : ∃ t, t = 1 + tt := ⟨_, rfl⟩
  have h1 : 1 ≤ t := by omega
  have h2 : t ≤ 1048576 := by omega
  try rw [← htt]
  have hs := hB.size
  have hB2 : Below w.heap.size w ((w2.alloc (.cells #[.int .i64 t, .int .i64 0] 43)).alloc (.cells #[.int .i64 t, .int .i64 0] 43)) := (hB.alloc hs _).alloc (by simp; omega) _
  have hC1 : Ctl 43 ((w2.alloc (.cells #[.int .i64 t, .int .i64 0] 43)).alloc (.cells #[.int .i64 t, .int .i64 0] 43)) w2.heap.size t 0 := (Below.heap_alloc _ _ _ (by simp)).trans (heap_alloc_new w2 _)
  have hC2 : Ctl 43 ((w2.alloc (.cells #[.int .i64 t, .int .i64 0] 43)).alloc (.cells #[.int .i64 t, .int .i64 0] 43)) (w2.heap.size + 1) t 0 := by
    have := heap_alloc_new (w2.alloc (.cells #[.int .i64 t, .int .i64 0] 43)) (.cells #[.int .i64 t, .int .i64 0] 43)
    rw [show (w2.alloc (.cells #[.int .i64 t, .int .i64 0] 43)).heap.size = w2.heap.size + 1 by simp] at this
    exact this
  generalize (w2.alloc (.cells #[.int .i64 t, .int .i64 0] 43)).alloc (.cells #[.int .i64 t, .int .i64 0] 43) = W2 at hB2 hC1 hC2 ⊢
  generalize hn1 : w2.heap.size = n1 at hC1 hC2 hs ⊢
  clear hn1 hB htt ht0 ht1
  go_loopw [23] (fun i wr => ∃ (k : Nat) (c d : Int), k ≤ len0 ∧ i = .int .i64 k ∧ -8 * t ≤ c ∧ c ≤ d ∧ d ≤ 8 * t ∧ Ctl 43 wr n1 t c ∧ Ctl 43 wr (n1 + 1) t d ∧ Below w.heap.size w wr) (fun i _ => (len0 - intOf i).toNat)
  case atStart => exact ⟨0, 0, 0, by omega, rfl, by omega, by omega, by omega, hC1, hC2, hB2⟩
  case round =>
    clear hC1 hC2 hB2
    obtain ⟨k, c, d, hk, rfl, hc0, hcd, hd1, hC1, hC2, hB⟩ := hrel
    have HC1' := Lib.hid hC1
    have HC2' := Lib.hid hC2
    clear hC1 hC2
    have HB := Lib.hid hB
    have hr0 := room_bd (c := c) h1
    have hr1 : 1 ≤ roomI t c := by omega
    have hr2 := Lib.hid hr1
    clear hr1 hr0
    by_cases hlt : k < len0
    · obtain ⟨hn', hn0, hn1⟩ := HC1.out k hlt
      have hn := (hB.cell (block_lt_of_cell hn')).trans hn'
      clear hn' hB
      generalize z0.getD k 0 = n at hn hn0 hn1
      obtain rfl : a0 = some ⟨b, off, none⟩ := by
        rcases HX.out with h | h
        · omega
        · exact h
      go_wp2_with (first
        | (go_at_call_has 9 (Value.pointer (some ⟨n1, 0, none⟩)); refine (spent_v _ t c _ _ HC1'.out h1 h2 hc0 (by omega)).mono ?_; rintro e w1 ⟨rfl, c', hc', rfl⟩)
        | (go_at_call_has 9 (Value.pointer (some ⟨n1 + 1, 0, none⟩)); refine (spent_two w wr n1 t c d c' _ _ hs HC1'.out HC2'.out HB.out h1 h2 hc0 hcd hd1 hc' (by first | omega | (simp only [Int.not_lt, Int.not_le] at *; simp_all; omega) | (split at * <;> omega) | ((repeat' split at *) <;> omega))).mono ?_; rintro e W3 ⟨rfl, d', hm, hb1, hb2, r00, r01, r10, r11, r2, KC, KD, KB⟩; clear hc')
        | (go_at_call_has 10 (Value.pointer (some ⟨n1, 0, none⟩)); refine (room_any _ t c' _ KC.out h1 h2 (by omega) (by omega)).mono ?_; rintro e w1 ⟨rfl, q0, rfl⟩)
        | (go_at_call_has 10 (Value.pointer (some ⟨n1, 0, none⟩)); refine (room_any _ t c' _ (KC.out.drewN _) h1 h2 (by omega) (by omega)).mono ?_; rintro e w1 ⟨rfl, q1, rfl⟩)
        | (go_at_call_has 10 (Value.pointer (some ⟨n1, 0, none⟩)); refine (room_any _ t c _ HC1'.out h1 h2 (by omega) (by omega)).mono ?_; rintro e w1 ⟨rfl, q1, rfl⟩)
        | (go_at_call_has 10 (Value.pointer (some ⟨n1 + 1, 0, none⟩)); refine (room_any _ t d' _ (KD.out.drewN _) h1 h2 (by omega) (by omega)).mono ?_; rintro e w1 ⟨rfl, q2, rfl⟩)
        | (go_at_call_has 11 (Value.pointer (some ⟨n1, 0, none⟩)); refine (credit_any _ t c' _ (KC.out.drewN _)).mono ?_; rintro e w1 ⟨rfl, rfl⟩)
        | (go_at_call_has 11 (Value.pointer (some ⟨n1 + 1, 0, none⟩)); refine (credit_any _ t d' _ (KD.out.drewN _)).mono ?_; rintro e w1 ⟨rfl, rfl⟩))
      · go_ret
        exact ⟨retb_eq (decide_eq_true hr2.out), below_drewN HB.out _⟩
      all_goals
        go_roundw
        case rel => exact ⟨k + 1, c', d', by omega, by go_num, hb1, hm, hb2, KC.out, KD.out, below_drewN KB.out _⟩
        case measure => simp [intOf]; omega
    · clear hB
      go_wp2_with (go_at_call 10; refine (room_any _ t c _ HC1'.out (by omega) (by omega) (by omega) (by omega)).mono ?_; rintro e w1 ⟨rfl, q1, rfl⟩)
      go_ret
      exact ⟨retb_eq (decide_eq_true hr2.out), below_drewN HB.out _⟩
end Go.Proofs.Ytdfhapcndofbdaa.rateStays
