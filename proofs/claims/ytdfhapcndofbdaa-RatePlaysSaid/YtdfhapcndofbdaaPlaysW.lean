/- The law RatePlays: its walk. -/
import Derived.Test.YtdfhapcndofbdaaSl
namespace Go.Proofs.Ytdfhapcndofbdaa.ratePlays
open Go.RowKit

set_option maxHeartbeats 2000000 in
theorem walk (w : World) (t : Int) (_w0 : (Lit.int .i64 t).wf = true) (a0 : Option Addr) (len0 cap0 : Nat) (z0 : List Int) (w0 : IsRow .i64 w a0 len0 cap0 z0) :
    Calls Try.prog 3 #[.int .i64 t, .slice a0 len0 cap0] w fun e w' => e = .returned (.bool true) ∧ Below w.heap.size w w' := by
  clear _w0
  have hlen := w0.len
  obtain ⟨b, off, hx, HC⟩ := w0.at
  have HC1 := Lib.hid HC
  have HX := Lib.hid hx
  clear hx w0 HC
  have hB := Below.refl w.heap.size w
  by_cases h1 : t < 1
  · go_enter Try.func3, Try.ntmps3
    go_wp2_with (first
      | (go_at_call 7; refine (first_any _).mono ?_; rintro e w2 ⟨rfl, hb2⟩; have hB := below2 hB hb2; clear hb2)
      | (go_at_call 8; refine (new_no _ _ (by omega)).mono ?_; rintro e w1 ⟨rfl, rfl⟩)
      | (go_at_call 9; refine (spent_nil _ _).mono ?_; rintro e w1 ⟨rfl, rfl⟩)
      | (go_at_call 10; refine (room_nil _).mono ?_; rintro e w1 ⟨rfl, rfl⟩)
      | (go_at_call 11; refine (credit_nil _).mono ?_; rintro e w1 ⟨rfl, rfl⟩))
    go_ret
    exact ⟨rfl, hB⟩
  by_cases h2 : 1048576 < t
  · go_enter Try.func3, Try.ntmps3
    go_wp2_with (first
      | (go_at_call 7; refine (first_any _).mono ?_; rintro e w2 ⟨rfl, hb2⟩; have hB := below2 hB hb2; clear hb2)
      | (go_at_call 8; refine (new_no _ _ (by omega)).mono ?_; rintro e w1 ⟨rfl, rfl⟩)
      | (go_at_call 9; refine (spent_nil _ _).mono ?_; rintro e w1 ⟨rfl, rfl⟩)
      | (go_at_call 10; refine (room_nil _).mono ?_; rintro e w1 ⟨rfl, rfl⟩)
      | (go_at_call 11; refine (credit_nil _).mono ?_; rintro e w1 ⟨rfl, rfl⟩))
    go_ret
    exact ⟨rfl, hB⟩
  go_enter Try.func3, Try.ntmps3
  go_wp2_with (first
    | (go_at_call 7; refine (first_any _).mono ?_; rintro e w2 ⟨rfl, hb2⟩; have hB := below2 hB hb2; clear hb2)
    | (go_at_call 8; refine (new_yes _ _ (by omega) (by omega)).mono ?_; rintro e w1 ⟨rfl, rfl⟩))
  have hs := hB.size
  have hB2 : Below w.heap.size w ((w2.alloc (.cells #[.int .i64 t, .int .i64 0] 43)).alloc (.cells #[.int .i64 t, .int .i64 0] 30)) := (hB.alloc hs _).alloc (by simp; omega) _
  have hC1 : Ctl 43 ((w2.alloc (.cells #[.int .i64 t, .int .i64 0] 43)).alloc (.cells #[.int .i64 t, .int .i64 0] 30)) w2.heap.size t 0 := (Below.heap_alloc _ _ _ (by simp)).trans (heap_alloc_new w2 _)
  have hC2 : Ctl 30 ((w2.alloc (.cells #[.int .i64 t, .int .i64 0] 43)).alloc (.cells #[.int .i64 t, .int .i64 0] 30)) (w2.heap.size + 1) t 0 := by
    have := heap_alloc_new (w2.alloc (.cells #[.int .i64 t, .int .i64 0] 43)) (.cells #[.int .i64 t, .int .i64 0] 30)
    rw [show (w2.alloc (.cells #[.int .i64 t, .int .i64 0] 43)).heap.size = w2.heap.size + 1 by simp] at this
    exact this
  generalize (w2.alloc (.cells #[.int .i64 t, .int .i64 0] 43)).alloc (.cells #[.int .i64 t, .int .i64 0] 30) = W2 at hB2 hC1 hC2 ⊢
  generalize hn1 : w2.heap.size = n1 at hC1 hC2 hs ⊢
  clear hn1 hB
  go_loopw [38] (fun i wr => ∃ (k : Nat) (c : Int), k ≤ len0 ∧ i = .int .i64 k ∧ -8 * t ≤ c ∧ c ≤ 8 * t ∧ Ctl 43 wr n1 t c ∧ Ctl 30 wr (n1 + 1) t c ∧ Below w.heap.size w wr) (fun i _ => (len0 - intOf i).toNat)
  case atStart => exact ⟨0, 0, by omega, rfl, by omega, by omega, hC1, hC2, hB2⟩
  case round =>
    clear hC1 hC2 hB2
    obtain ⟨k, c, hk, rfl, hc0, hc1, hC1, hC2, hB⟩ := hrel
    have HC1' := Lib.hid hC1
    have HC2' := Lib.hid hC2
    have kc := hC2.c1
    clear hC1 hC2
    have HB := Lib.hid hB
    by_cases hlt : k < len0
    · obtain ⟨hn', hn0, hn1⟩ := HC1.out k hlt
      have hn := (hB.cell (block_lt_of_cell hn')).trans hn'
      clear hn' hB
      generalize z0.getD k 0 = n at hn hn0 hn1
      obtain rfl : a0 = some ⟨b, off, none⟩ := by
        rcases HX.out with h | h
        · omega
        · exact h
      go_wp2
      go_quiet ((first
        | (go_at_call 10; refine Calls.quiet_of (room_any _ t c _ (HC1'.out.drewN _) (by omega) (by omega) (by omega) (by omega)))
        | (go_at_call 12; refine Calls.quiet_of (refRoom_any _ t c _ (HC2'.out.drewN _) (by omega) (by omega) (by omega) (by omega)))
        | (go_at_call 11; refine Calls.quiet_of_same (credit_any _ t c _ (HC1'.out.drewN _)))))
      go_wp2_with (first
        | (go_at_call 10; refine (room_any _ t c _ (HC1'.out.drewN _) (by omega) (by omega) (by omega) (by omega)).mono ?_; rintro e w1 ⟨rfl, q1, rfl⟩)
        | (go_at_call 12; refine (refRoom_any _ t c _ (HC2'.out.drewN _) (by omega) (by omega) (by omega) (by omega)).mono ?_; rintro e w1 ⟨rfl, q2, rfl⟩)
        | (go_at_call 9; refine (spent_any _ t c _ _ (HC1'.out.drewN _) (by omega) (by omega) (by omega) (by omega)).mono ?_; rintro e w1 ⟨rfl, rfl⟩)
        | (go_at_call 13; refine (refSpent_any _ t c _ _ (((ctl_other (b' := n1) (HC2'.out.drewN nq) (by omega) 1 _).drewN 1)) (by omega) (by omega) (by omega) (by omega)).mono ?_; rintro e w1 ⟨rfl, rfl⟩))
      · go_ret
        exact ⟨rfl, below_drewN HB.out _⟩
      · have hsb := spent_bd (t := t) (c := c) (n := n) (by omega)
        go_roundw
        case rel =>
          exact ⟨k + 1, spentI t c n, by omega, by go_num, hsb.1, hsb.2, (ctl_other (ctl_set HC1'.out) (by omega) 1 _), ctl_set (ctl_other HC2'.out (by omega) 1 _), below_drewN (Below.setCell (below_drewN (Below.setCell (below_drewN HB.out _) (p := ⟨n1, 1, none⟩) hs _) 1) (p := ⟨n1 + 1, 1, none⟩) (by show w.heap.size ≤ n1 + 1; omega) _) 1⟩
        case measure => simp [intOf]; omega
    · clear hB
      go_wp2_with (first
        | (go_at_call 10; refine (room_any _ t c _ HC1'.out (by omega) (by omega) (by omega) (by omega)).mono ?_; rintro e w1 ⟨rfl, q1, rfl⟩)
        | (go_at_call 12; refine (refRoom_any _ t c _ (HC2'.out.drewN _) (by omega) (by omega) (by omega) (by omega)).mono ?_; rintro e w1 ⟨rfl, q2, rfl⟩))
      go_ret
      exact ⟨rfl, below_drewN HB.out _⟩
end Go.Proofs.Ytdfhapcndofbdaa.ratePlays
