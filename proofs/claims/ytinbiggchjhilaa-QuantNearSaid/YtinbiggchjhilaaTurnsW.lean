/- The walk of the law QuantTurns: it returns true. -/
import Derived.Test.YtinbiggchjhilaaQub
namespace Go.Proofs.Ytinbiggchjhilaa
open Go.RowKit
theorem wf_bd {k : IntKind} {n : Int} (h : (Lit.int k n).wf = true) : k.min ≤ n ∧ n ≤ k.max := by
  simpa only [Lit.wf, Bool.and_eq_true, decide_eq_true_eq] using h
theorem wf_i64_hi {n : Int} (h : (Lit.int .i64 n).wf = true) : n ≤ 9223372036854775807 := by
  have hmax : IntKind.i64.max = 9223372036854775807 := rfl
  have := (wf_bd h).2
  rw [hmax] at this; exact this

namespace quantTurns
set_option maxHeartbeats 1000000 in
theorem walk (w : World) (a0 : Int) (w0 : (Lit.int .i64 a0).wf = true) (a1 : Int) (_w1 : (Lit.int .i64 a1).wf = true) (b : Bool) :
    Calls Try.prog 6 #[.int .i64 a0, .int .i64 a1, .bool b] w fun e w' => e = .returned (.bool true) ∧ Below w.heap.size w w' := by
  have hv := wf_i64_hi w0
  clear w0 _w1
  have hB := Below.refl w.heap.size w
  go_enter Try.func6, Try.ntmps6
  go_wp2_with (first
    | (go_at_call 22; refine (first11 _).mono ?_; rintro e w2 ⟨rfl, hb2⟩; have hB := below2 hB hb2; clear hb2)
    | (go_at_call 23; refine (there_any _ _ _ hv).mono ?_; rintro e w2 ⟨rfl, hb2⟩; have hB := below2 hB hb2; clear hb2)
    | (go_at_call 24; refine (refThere_any _ _ _).mono ?_; rintro e w' ⟨rfl, rfl⟩)
    | (go_at_call 25; refine (back_any _ _ _ _ hv).mono ?_; rintro e w2 ⟨rfl, hb2⟩; have hB := below2 hB hb2; clear hb2)
    | (go_at_call 26; refine (refBack_any _ _ _ _).mono ?_; rintro e w' ⟨rfl, rfl⟩)
    | (go_at_call 27; refine (qclamp_any _ _).mono ?_; rintro e w' ⟨rfl, rfl⟩)
    | (go_at_call 28; refine (refNear_any _ _ _ _).mono ?_; rintro e w' ⟨rfl, rfl⟩)
    | (go_at_call 29; refine (qclip_any _ _).mono ?_; rintro e w' ⟨rfl, rfl⟩))
  go_ret
  exact ⟨rfl, hB⟩
end quantTurns
end Go.Proofs.Ytinbiggchjhilaa
