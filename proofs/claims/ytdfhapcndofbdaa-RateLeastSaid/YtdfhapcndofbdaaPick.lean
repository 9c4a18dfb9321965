/- rate.Pick over any function of sizes; the first answers. -/
import Derived.Test.YtdfhapcndofbdaaRt
namespace Go.Proofs.Ytdfhapcndofbdaa
open Go.RowKit

/-- The least quantiser of a bisection, by rounds. -/
def betw (s : Int → Int) (room : Int) : Nat → Int → Int → Int
  | 0, a, _ => a
  | k + 1, a, b => if a < b then (if s ((a + b) / 2) ≤ room then betw s room k a ((a + b) / 2) else betw s room k ((a + b) / 2 + 1) b) else a

theorem betw_end (s : Int → Int) (room : Int) : ∀ (k : Nat) (a b : Int), b ≤ a → betw s room k a b = a
  | 0, _, _, _ => rfl
  | k + 1, a, b, h => by unfold betw; rw [if_neg (by omega)]
theorem betw_more (s : Int → Int) (room : Int) : ∀ (k : Nat) (a b : Int), b - a ≤ k → betw s room (k + 1) a b = betw s room k a b
  | 0, a, b, h => by rw [betw_end _ _ 1 a b (by omega)]; rfl
  | k + 1, a, b, h => by
    unfold betw
    split
    · rw [betw_more s room k a _ (by omega), betw_more s room k _ b (by omega)]
    · rfl
theorem betw_down (s : Int → Int) (room : Int) {a b : Int} (hab : a < b) (hk : b - a ≤ 60) (hs : s ((a + b) / 2) ≤ room) : betw s room 60 a b = betw s room 60 a ((a + b) / 2) := by
  conv => lhs; unfold betw
  rw [if_pos hab, if_pos hs, betw_more s room 59 _ _ (by omega)]
theorem betw_up (s : Int → Int) (room : Int) {a b : Int} (hab : a < b) (hk : b - a ≤ 60) (hs : ¬ s ((a + b) / 2) ≤ room) : betw s room 60 a b = betw s room 60 ((a + b) / 2 + 1) b := by
  conv => lhs; unfold betw
  rw [if_pos hab, if_neg hs, betw_more s room 59 _ _ (by omega)]
def pickI (s : Int → Int) (room : Int) : Int := betw s room 60 0 60

theorem func_test (g : Nat) (caps : Array Value) (w : World) : Sem.run Try.prog (binOp BinOp.eql 35 (.func (.func g) #[] caps) .nilFunc) w = .ok (.bool false) w := by kernel_rfl
theorem nil_test (w : World) : Sem.run Try.prog (binOp BinOp.eql 35 .nilFunc .nilFunc) w = .ok (.bool true) w := by kernel_rfl
set_option maxHeartbeats 1000000 in
theorem pick_any (room : Int) (s : Int → Int) (g : Nat) (caps : Array Value) (w : World) (I : World → Prop) (A : Int → World → Prop)
    (hcall : ∀ q w1, 0 ≤ q → q < 60 → I w1 → Calls Try.prog g (#[.int .i64 q] ++ caps) w1 fun e w2 => e = .returned (.int .i64 (s q)) ∧ I w2 ∧ A q w2 ∧ ∀ p, A p w1 → A p w2)
    (hrun : ∀ args w1, Sem.run Try.prog (callFunc g args) w1 = .ok (.enter g args) w1) (hI : I w) :
    Calls Try.prog 15 #[.int .i64 room, .func (.func g) #[] caps] w fun e w' => ∃ r, e = .returned (.int .i64 r) ∧ r = pickI s room ∧ 0 ≤ r ∧ r ≤ 60 ∧ I w' ∧ (r < 60 → A r w' ∧ s r ≤ room) ∧ (0 < r → A (r - 1) w' ∧ room < s (r - 1)) := by
  have HC := Lib.hid hcall
  have HI := Lib.hid hI
  clear hcall hI
  go_enter Try.func15, Try.ntmps15
  go_wp2_with (rw [func_test])
  go_loopw [5, 6] (fun a b wr => ∃ x y : Int, a = .int .i64 x ∧ b = .int .i64 y ∧ 0 ≤ x ∧ x ≤ y ∧ y ≤ 60 ∧ betw s room 60 x y = pickI s room ∧ I wr ∧ (y < 60 → A y wr ∧ s y ≤ room) ∧ (0 < x → A (x - 1) wr ∧ room < s (x - 1))) (fun a b _ => (intOf b - intOf a).toNat)
  case atStart => exact ⟨0, 60, rfl, rfl, by omega, by omega, by omega, rfl, HI.out, fun h => absurd h (by omega), fun h => absurd h (by omega)⟩
  case round =>
    obtain ⟨x, y, rfl, rfl, h0, hxy, hy, hb, hI, hY, hX⟩ := hrel
    have HR := Lib.hid (And.intro hb (And.intro hI (And.intro hY hX)))
    clear hb hI hY hX
    by_cases hlt : x < y
    · go_wp2_with (first | (rw [hrun]) | (refine (HC.out _ _ (by omega) (by omega) HR.out.2.1).mono ?_; rintro e w2 ⟨rfl, hI2, hA2, hm2⟩))
      · have hs : s ((x + y) / 2) ≤ room := by assumption
        obtain ⟨hb, -, hY, hX⟩ := HR.out
        go_roundw
        case rel => exact ⟨x, (x + y) / 2, rfl, rfl, by omega, by omega, by omega, by rw [← hb, betw_down _ _ hlt (by omega) hs], hI2, fun _ => ⟨hA2, hs⟩, fun h => ⟨hm2 _ (hX h).1, (hX h).2⟩⟩
        case measure => simp [intOf]; omega
      · have hs : ¬ s ((x + y) / 2) ≤ room := by have : room < s ((x + y) / 2) := by assumption
                                                 omega
        obtain ⟨hb, -, hY, hX⟩ := HR.out
        go_roundw
        case rel => exact ⟨(x + y) / 2 + 1, y, by go_num, rfl, by omega, by omega, by omega, by rw [← hb, betw_up _ _ hlt (by omega) hs], hI2, fun h => ⟨hm2 _ (hY h).1, (hY h).2⟩, fun _ => by rw [Int.add_sub_cancel]; exact ⟨hA2, by omega⟩⟩
        case measure => simp [intOf]; omega
    · obtain rfl : x = y := by omega
      obtain ⟨hb, hI, hY, hX⟩ := HR.out
      go_wp2
      go_ret
      exact ⟨x, rfl, by rw [← hb, betw_end _ _ _ _ _ (by omega)], h0, hy, hI, hY, hX⟩
set_option maxHeartbeats 400000 in
theorem pick_nil (room : Int) (w : World) : Calls Try.prog 15 #[.int .i64 room, .nilFunc] w fun e w' => e = .returned (.int .i64 60) ∧ w' = w := by
  go_enter Try.func15, Try.ntmps15
  go_wp2_with (rw [nil_test])
  go_ret
  exact ⟨rfl, rfl⟩

set_option maxHeartbeats 400000 in
theorem less_any (q : Int) (w : World) (h0 : 0 ≤ q) (h1 : q < 60) : Calls Try.prog 19 #[.int .i64 q] w fun e w' => e = .returned (.int .i64 (30 - q)) ∧ w' = w := by
  go_enter Try.func19, Try.ntmps19
  go_wp2
  go_ret
  exact ⟨rfl, rfl⟩
theorem pick_less (w : World) : Calls Try.prog 15 #[.int .i64 9, .func (.func 19) #[] #[]] w fun e w' => e = .returned (.int .i64 21) ∧ w' = w := by
  refine (pick_any 9 (fun q => 30 - q) 19 #[] w (fun w' => w' = w) (fun _ _ => True) ?_ (fun _ _ => by kernel_rfl) rfl).mono ?_
  · rintro q w1 h0 h1 rfl
    exact (less_any q w1 h0 h1).mono fun e w2 h => ⟨h.1, h.2, trivial, fun _ _ => trivial⟩
  · rintro e w' ⟨r, rfl, rfl, -, -, rfl, -⟩
    exact ⟨by rw [show pickI (fun q => 30 - q) 9 = 21 from by decide], rfl⟩

theorem below_ctl {T : TypeId} {n : Nat} {w a : World} {b : Nat} {t c : Int} (hB : Below n w a) (hb : b < n) (h : Ctl T w b t c) : Ctl T a b t c := by
  exact (hB.block b hb).trans h
theorem Ctl.drewN {T : TypeId} {w : World} {b : Nat} {t c : Int} (h : Ctl T w b t c) (n : Nat) : Ctl T (w.drewN n) b t c := h
theorem below_drewN {n : Nat} {a w : World} (h : Below n a w) (k : Nat) : Below n a (w.drewN k) := ⟨h.os, h.tape, h.output, h.size, h.block⟩
theorem spent0 : spentI 100 0 60 = 40 := by decide
theorem room0 : roomI 100 40 = 110 := by decide

theorem pick_less' (r : Int) (fv : Value) (w : World) (h : r = 9) (hf : fv = .func (.func 19) #[] #[]) : Calls Try.prog 15 #[.int .i64 r, fv] w fun e w' => e = .returned (.int .i64 21) ∧ w' = w := by subst h hf; exact pick_less w
theorem pick_nil' (room : Int) (fv : Value) (w : World) (hf : fv = .nilFunc) : Calls Try.prog 15 #[.int .i64 room, fv] w fun e w' => e = .returned (.int .i64 60) ∧ w' = w := by subst hf; exact pick_nil room w

set_option maxHeartbeats 1000000 in
theorem first_any (w : World) : Calls Try.prog 7 #[] w fun e w' => e = .returned (.bool true) ∧ Below w.heap.size w w' := by
  have hC : Ctl 43 (w.alloc (.cells #[.int .i64 100, .int .i64 0] 43)) w.heap.size 100 0 := heap_alloc_new w _
  have hC2 : Ctl 43 (w.alloc (.cells #[.int .i64 100, .int .i64 40] 43)) w.heap.size 100 40 := heap_alloc_new w _
  have hB : Below w.heap.size w (w.alloc (.cells #[.int .i64 100, .int .i64 40] 43)) := (Below.refl _ w).alloc (Nat.le_refl _) _
  go_enter Try.func7, Try.ntmps7
  go_wp2_with (first
    | (go_at_call 8; refine (new_yes _ _ (by omega) (by omega)).mono ?_; rintro e w1 ⟨rfl, rfl⟩)
    | (go_at_call 8; refine (new_no _ _ (by omega)).mono ?_; rintro e w1 ⟨rfl, rfl⟩)
    | (go_at_call 9; refine (spent_any _ 100 0 _ _ hC (by omega) (by omega) (by omega) (by omega)).mono ?_; rintro e w1 ⟨rfl, hw⟩; rw [spent0] at hw; subst hw)
    | (go_at_call 11; refine (credit_any _ 100 40 _ (hC2.drewN 1)).mono ?_; rintro e w1 ⟨rfl, rfl⟩)
    | (go_at_call 10; refine (room_any _ 100 40 _ (hC2.drewN 1) (by omega) (by omega) (by omega) (by omega)).mono ?_; rintro e w1 ⟨he, n1, rfl⟩; rw [room0] at he; subst he)
    | (go_at_call 15; refine (pick_less' _ _ _ (by rfl) (by rfl)).mono ?_; rintro e w1 ⟨rfl, rfl⟩)
    | (go_at_call 15; refine (pick_nil' _ _ _ (by rfl)).mono ?_; rintro e w1 ⟨rfl, rfl⟩))
  go_ret
  exact ⟨rfl, below_drewN hB _⟩
end Go.Proofs.Ytdfhapcndofbdaa
