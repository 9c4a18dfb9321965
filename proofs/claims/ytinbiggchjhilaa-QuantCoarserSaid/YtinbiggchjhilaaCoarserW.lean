/- The walk of the law QuantCoarser: it returns true. -/
import Derived.Test.YtinbiggchjhilaaQuc
namespace Go.Proofs.Ytinbiggchjhilaa.quantCoarser
open Go.RowKit

set_option maxHeartbeats 1000000 in
theorem walk (w : World) (v : Int) (w0 : (Lit.int .i64 v).wf = true) (q : Int) (_w1 : (Lit.int .i64 q).wf = true) (b : Bool) :
    Calls Try.prog 8 #[.int .i64 v, .int .i64 q, .bool b] w fun e w' => e = .returned (.bool true) ∧ Below w.heap.size w w' := by
  have hv := wf_i64_hi w0
  clear w0 _w1
  have hB := Below.refl w.heap.size w
  by_cases c1 : v < -1099511627776
  · go_enter Try.func8, Try.ntmps8
    go_wp2_with (go_at_call 22; refine (first11 _).mono ?_; rintro e w2 ⟨rfl, hb2⟩; have hB := below2 hB hb2; clear hb2)
    go_ret
    exact ⟨rfl, hB⟩
  by_cases c2 : 1099511627776 < v
  · go_enter Try.func8, Try.ntmps8
    go_wp2_with (go_at_call 22; refine (first11 _).mono ?_; rintro e w2 ⟨rfl, hb2⟩; have hB := below2 hB hb2; clear hb2)
    go_ret
    exact ⟨rfl, hB⟩
  by_cases c3 : q < 0
  · go_enter Try.func8, Try.ntmps8
    go_wp2_with (go_at_call 22; refine (first11 _).mono ?_; rintro e w2 ⟨rfl, hb2⟩; have hB := below2 hB hb2; clear hb2)
    go_ret
    exact ⟨rfl, hB⟩
  by_cases c4 : 59 < q
  · go_enter Try.func8, Try.ntmps8
    go_wp2_with (go_at_call 22; refine (first11 _).mono ?_; rintro e w2 ⟨rfl, hb2⟩; have hB := below2 hB hb2; clear hb2)
    go_ret
    exact ⟨rfl, hB⟩
  have hco := coarser_all (v := v) (q := q) (by omega) (by omega) (by omega) (by omega)
  have hr := round_all (v := v) (q := q) (b := b) (by omega) (by omega) (by omega) (by omega)
  have hb1 := there_bd (v := v) (q := q) (by omega) (by omega) (by omega) (by omega)
  have hb2 := there_bd (v := v) (q := q + 1) (by omega) (by omega) (by omega) (by omega)
  have hn := near_all (v := v) (q := q) (b := b) (by omega) (by omega) (by omega) (by omega)
  have hf := facI_bd q
  obtain ⟨_, _, hn1, hn2, _⟩ := hn
  have HR := Lib.hid hr
  clear hr
  go_enter Try.func8, Try.ntmps8
  go_wp2_with (first
    | (go_at_call 22; refine (first11 _).mono ?_; rintro e w2 ⟨rfl, hb2⟩; have hB := below2 hB hb2; clear hb2)
    | (go_at_call 23; refine (there_any _ _ _ (by omega)).mono ?_; rintro e w2 ⟨rfl, hb2⟩; have hB := below2 hB hb2; clear hb2)
    | (go_at_call 25; refine (back_any _ _ _ _ (by omega)).mono ?_; rintro e w2 ⟨rfl, hb2⟩; have hB := below2 hB hb2; clear hb2))
  all_goals
    go_ret
    exact ⟨retb_eq (by rw [HR.out]; simp), by assumption⟩
end Go.Proofs.Ytinbiggchjhilaa.quantCoarser
