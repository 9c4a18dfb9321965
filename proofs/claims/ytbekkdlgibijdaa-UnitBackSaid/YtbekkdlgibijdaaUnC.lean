/- A head's check; the plain law of one unit. -/
import Derived.Test.YtbekkdlgibijdaaUnB
namespace Go.Proofs.Ytbekkdlgibijdaa
open Go.RowKit

/-- the error of a head behind a unit of a size -/
def chkI (cd nx pv : Nat) (size : Int) : Int :=
  if knownI cd = false then 272 else if (pv : Int) ≠ size then 271 else if cd = 16 ∧ nx ≠ 0 then 271 else if cd ≠ 16 ∧ nx < 13 then 271 else 0
set_option maxHeartbeats 1000000 in
theorem check_any (cd nx pv : Nat) (size : Int) (w : World) (h0 : cd < 4294967296) :
    Calls Try.prog 53 #[.agg #[.int .i64 (cd : Nat), .int .i64 (nx : Nat), .int .i64 (pv : Nat)], .int .i64 size] w fun e w' => e = .returned (.int .i64 (chkI cd nx pv size)) ∧ Below w.heap.size w w' := by
  have hB := (Below.refl w.heap.size w).alloc (Nat.le_refl _) (.cells #[.int .i64 (cd : Nat), .int .i64 (nx : Nat), .int .i64 (pv : Nat)] 95)
  have HB := Lib.hid hB
  have hK := fun w => known_any (cd : Nat) (by omega) (by omega) w
  obtain ⟨R, hR⟩ : ∃ R, R = chkI cd nx pv size := ⟨_, rfl⟩
  rw [← hR]
  unfold chkI at hR
  clear hB
  by_cases hk : knownI cd = false
  · rw [if_pos hk] at hR
    rw [hk] at hK
    subst hR
    have HK := Lib.hid hK
    clear hk hK
    go_enter Try.func53, Try.ntmps53
    go_wp2_with (go_at_call 29; refine (HK.out _).mono ?_; rintro e w1 ⟨rfl, rfl⟩)
    go_ret
    exact ⟨rfl, HB.out⟩
  rw [if_neg hk] at hR
  rw [show knownI cd = true by simpa using hk] at hK
  have HK := Lib.hid hK
  clear hk hK
  by_cases hp : (pv : Int) = size
  · rw [if_neg (by simpa using hp)] at hR
    have p0 : ((pv : Int) != size) = false := by simp [hp]
    have HP := Lib.hid hp
    clear hp
    by_cases hc : cd = 16
    · subst hc
      by_cases hn : nx = 0
      · subst hn
        rw [if_neg (by simp), if_neg (by simp)] at hR
        subst hR
        go_enter Try.func53, Try.ntmps53
        go_wp2_with (go_at_call 29; refine (HK.out _).mono ?_; rintro e w1 ⟨rfl, rfl⟩)
        go_ret
        exact ⟨rfl, HB.out⟩
      · rw [if_pos ⟨rfl, hn⟩] at hR
        subst hR
        have n0 : ((nx : Int) != 0) = true := by simp [hn]
        clear hn
        go_enter Try.func53, Try.ntmps53
        go_wp2_with (go_at_call 29; refine (HK.out _).mono ?_; rintro e w1 ⟨rfl, rfl⟩)
        go_ret
        exact ⟨rfl, HB.out⟩
    · rw [if_neg (fun h => hc h.1)] at hR
      have c0 : ((cd : Int) == 16) = false := by simp; omega
      have c1 : ((cd : Int) != 16) = true := by simp; omega
      by_cases hn : nx < 13
      · rw [if_pos ⟨hc, hn⟩] at hR
        subst hR
        have n0 : (nx : Int) < 13 := by omega
        clear hn hc
        go_enter Try.func53, Try.ntmps53
        go_wp2_with (go_at_call 29; refine (HK.out _).mono ?_; rintro e w1 ⟨rfl, rfl⟩)
        go_ret
        exact ⟨rfl, HB.out⟩
      · rw [if_neg (fun h => hn h.2)] at hR
        subst hR
        have n0 : ¬ (nx : Int) < 13 := by omega
        clear hn hc
        go_enter Try.func53, Try.ntmps53
        go_wp2_with (go_at_call 29; refine (HK.out _).mono ?_; rintro e w1 ⟨rfl, rfl⟩)
        go_ret
        exact ⟨rfl, HB.out⟩
  · rw [if_pos (by simpa using hp)] at hR
    subst hR
    have p0 : ((pv : Int) != size) = true := by simp [hp]
    clear hp
    go_enter Try.func53, Try.ntmps53
    go_wp2_with (go_at_call 29; refine (HK.out _).mono ?_; rintro e w1 ⟨rfl, rfl⟩)
    go_ret
    exact ⟨rfl, HB.out⟩
theorem hCode_lt (h : List UInt8) : hCode h < 4294967296 := numB_le (by simp [nextB]; omega)
theorem hNext_lt (h : List UInt8) : hNext h < 4294967296 := numB_le (by simp [nextB]; omega)
theorem hPrev_lt (h : List UInt8) : hPrev h < 4294967296 := numB_le (by simp [nextB]; omega)
/-- the error of a head's bytes -/
def headE (h : List UInt8) (size : Int) : Int := if nextB h 0 4 = markB then chkI (hCode h) (hNext h) (hPrev h) size else 270
/-- how long the unit with this head is -/
def unitN (h : List UInt8) : Nat := max (hNext h) 13
/-- the error of the unit at a place -/
def oneE (b : List UInt8) (at_ : Nat) (size : Int) : Int :=
  if b.length < at_ + 13 then 30 else if headE (nextB b at_ 13) size ≠ 0 then headE (nextB b at_ 13) size else if b.length < at_ + unitN (nextB b at_ 13) then 30 else 0
/-- a walker's block -/
def WkAt (w : World) (wb cb : Nat) (size : Int) (ended : Bool) : Prop := w.heap[wb]? = some (.cells #[.pointer (some ⟨cb, 0, none⟩), .int .i64 size, .bool ended] 93 (0, 0))
theorem WkAt.later {w w' : World} {wb cb : Nat} {size : Int} {ended : Bool} (h : WkAt w wb cb size ended) (hb : Below w.heap.size w w') : WkAt w' wb cb size ended := block_later h hb
set_option maxHeartbeats 1000000 in
theorem look_ended {w : World} {wb cb : Nat} {size : Int} (h : WkAt w wb cb size true) :
    Calls Try.prog 49 #[.pointer (some ⟨wb, 0, none⟩)] w fun e w' => e = .returned (.tuple #[.agg #[.int .i64 0, .int .i64 0, .int .i64 0], .int .i64 0, .int .i64 272]) ∧ Below w.heap.size w w' := by
  have hB := (Below.refl w.heap.size w).alloc (Nat.le_refl _) (.cells #[.int .i64 0, .int .i64 0, .int .i64 0] 95)
  have e0 := cell_of_row _ _ 2 _ _ _ (h.later hB)
  have HB := Lib.hid hB
  clear hB h
  go_enter Try.func49, Try.ntmps49
  go_wp2_with fail
  exact bodyPost_ret (results_cell2 Try.results49 _ _ w.heap.size 95 #[.int .i64 0, .int .i64 0, .int .i64 0] _ _ rfl (heap_alloc_new w _) Try.underlying95 rfl info95) rfl ⟨rfl, HB.out⟩
end Go.Proofs.Ytbekkdlgibijdaa
