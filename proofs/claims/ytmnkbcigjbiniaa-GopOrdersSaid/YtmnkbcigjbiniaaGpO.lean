/- Contracts of gop.All and gop.List. -/
import Derived.Test.YtmnkbcigjbiniaaGpN
namespace Go.Proofs.Ytmnkbcigjbiniaa
open Go.RowKit Go.Shelf
attribute [local go_sem] Oper.semAt_some

set_option maxRecDepth 100000 in
set_option maxHeartbeats 1000000 in
theorem all0_in (d l B : Nat) (n p b : Int) (hno : okA n p b = false)
    (J : List ShX → World → Prop) (W : World) (hJ : AbidesFrom W.heap.size J)
    (hx0 : Boxed W (B + 0) 3 (.int .i64 n)) (hx1 : W.heap[B + 1]? = some (.cells #[.int .i64 p, .int .i64 b] 23 (0, 0))) (h0 : J [] W) :
    CallsIn Fence.wide d Try.prog 19 #[.func (.yield l) #[] #[], .pointer (some ⟨B, 0, none⟩), .pointer (some ⟨B + 1, 0, none⟩)] W fun e W' => (∃ v, e = .returned v) ∧ J [] W' := by
  have hc0 : W.cell? ⟨B, 0, none⟩ = some (.int .i64 n) := hx0.cell
  have hc1 : W.cell? ⟨B + 1, 0, none⟩ = some (.int .i64 p) := cell_of_row _ _ 0 _ _ _ hx1
  have hc2 : W.cell? ⟨B + 1, 1, none⟩ = some (.int .i64 b) := cell_of_row _ _ 1 _ _ _ hx1
  have hcn : cntA n p b = 0 := by unfold cntA; rw [if_neg (by simp [hno])]
  have HJ := Lib.hid hJ
  have HC := Lib.hid hcn
  clear hx0 hx1 hJ hcn
  refine callsIn_of_wp Try.func19 rfl trivial ?_ rfl
  simp only [Try.ntmps19, List.size_toArray, List.length_cons, List.length_nil, Nat.reduceAdd, Nat.reduceSub, Array.replicate_succ, Array.replicate_zero, List.push_toArray, List.append_toArray, List.nil_append, List.cons_append]
  refine wpIn_wide.2 (wp_scope_straight ((wpIn_wide (n := d)).1 ?_))
  have hwide : ∀ k, Fence.wide.fn k := fun _ => trivial
  have hdep : Fence.wide.depth = none := rfl
  have hrnd : Fence.wide.round = none := rfl
  gi_wp2_with fail
  refine (callsIn_wide.2 (anchors_any n p b _)).mono ?_
  rintro e w1 ⟨v, rfl, hown, hb1⟩
  rw [HC.out] at hown
  obtain ⟨A, cap, g, rfl, _, _⟩ := own_at hown
  have hJ1 : J [] w1 := HJ.out _ _ _ none h0 (below_grown hb1) (fun r e => by cases e)
  have HJ1 := Lib.hid hJ1
  clear hown hc0 hc1 hc2 h0 hJ1 hb1
  gi_wp2_with fail
  refine wpIn_label ?_
  gi_wp2_with fail
  gi_loopw [13] (fun i wr => i = .int .i64 0 ∧ Hid (J [] wr)) (fun _ _ => 0)
  case atStart => exact ⟨rfl, HJ1⟩
  case round =>
    obtain ⟨rfl, hJr⟩ := hrel
    gi_wp2
    rw [Exit.noGoto_normal]
    go_end0
    exact ⟨⟨_, rfl⟩, hJr.out⟩

theorem all_gives (d B : Nat) (n p b : Int) (W0 : World) (hx0 : Boxed W0 (B + 0) 3 (.int .i64 n)) (hx1 : W0.heap[B + 1]? = some (.cells #[.int .i64 p, .int .i64 b] 23 (0, 0))) :
    SeqG Fence.wide d Try.prog 19 #[.pointer (some ⟨B, 0, none⟩), .pointer (some ⟨B + 1, 0, none⟩)] encX ShG (KP B) (fun xs => xs.map (·.1) = shots n p b) (shots n p b).length W0 := fun l J W hW hJ hY h0 => by
  have k0 : Boxed W (B + 0) 3 (.int .i64 n) := block_later hx0 hW
  have k1 := block_later hx1 hW
  cases hok : okA n p b with
  | true => exact all1_in d l B n p b hok J W hJ hY k0 k1 h0
  | false =>
    have hs : shots n p b = [] := by unfold shots cntA; rw [if_neg (by simp [hok])]; rfl
    rw [hs]
    exact (all0_in d l B n p b hok J W hJ k0 k1 h0).mono fun e W' ⟨he, hj⟩ => ⟨he, [], rfl, hj⟩

/-- What gop.All leaves: two boxes. -/
structure Boxes (n p b : Int) (W w' : World) : Prop where
  below : Below W.heap.size W w'
  size : w'.heap.size = W.heap.size + 2
  c0 : Boxed w' (W.heap.size + 0) 3 (.int .i64 n)
  c1 : w'.heap[W.heap.size + 1]? = some (.cells #[.int .i64 p, .int .i64 b] 23 (0, 0))
theorem all_any (n p b : Int) (W : World) :
    Calls Try.prog 15 #[.int .i64 n, .agg #[.int .i64 p, .int .i64 b]] W fun e w' => e = .returned (.func (.func 19) #[] #[.pointer (some ⟨W.heap.size, 0, none⟩), .pointer (some ⟨W.heap.size + 1, 0, none⟩)]) ∧ Boxes n p b W w' := by
  go_enter Try.func15, Try.ntmps15
  go_wp2
  go_ret
  refine ⟨rfl, ((Below.refl _ W).alloc (Nat.le_refl _) _).alloc (by simp) _, by simp, (Boxed.new W 3 (.int .i64 n)).alloc _, ?_⟩
  have := heap_alloc_new (W.alloc (.cells #[.int .i64 n] 3)) (.cells #[.int .i64 p, .int .i64 b] 23)
  rwa [World.size_alloc] at this
end Go.Proofs.Ytmnkbcigjbiniaa
