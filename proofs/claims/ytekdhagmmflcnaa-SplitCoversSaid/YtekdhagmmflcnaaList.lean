/- Contracts of split.All and split.List. -/
import Derived.Test.YtekdhagmmflcnaaAll
namespace Go.Proofs.Ytekdhagmmflcnaa
open Go.RowKit Go.Shelf
attribute [local go_sem] Oper.semAt_some

/-- how many parts there are -/
def cntI (w h m n : Int) : Nat := if rightI w h m n = true then (m * n).toNat else 0
theorem cnt_le (w h m n : Int) : cntI w h m n ≤ 4096 := by
  unfold cntI
  split
  · rename_i hr
    obtain ⟨_, _, _, _, m0, m1, n0, n1⟩ := rightI_yes hr
    have := Int.mul_le_mul m1 n1 (by omega) (by omega : (0 : Int) ≤ 64)
    omega
  · omega

set_option maxRecDepth 100000 in
set_option maxHeartbeats 1000000 in
theorem all0_in (d : Nat) (l B : Nat) (w h m n : Int) (hr : rightI w h m n = false)
    (J : List Nat → World → Prop) (W : World)
    (hc0 : W.cell? ⟨B, 0, none⟩ = some (.int .i64 w)) (hc1 : W.cell? ⟨B + 1, 0, none⟩ = some (.int .i64 h)) (hc2 : W.cell? ⟨B + 2, 0, none⟩ = some (.int .i64 m)) (hc3 : W.cell? ⟨B + 3, 0, none⟩ = some (.int .i64 n)) (h0 : J [] W) :
    CallsIn Fence.wide d Try.prog 22 #[.func (.yield l) #[] #[], .pointer (some ⟨B, 0, none⟩), .pointer (some ⟨B + 1, 0, none⟩), .pointer (some ⟨B + 2, 0, none⟩), .pointer (some ⟨B + 3, 0, none⟩)] W fun e W' => (∃ v, e = .returned v) ∧ J [] W' := by
  refine callsIn_of_wp Try.func22 rfl trivial ?_ rfl
  simp only [Try.ntmps22, List.size_toArray, List.length_cons, List.length_nil, Nat.reduceAdd, Nat.reduceSub, Array.replicate_succ, Array.replicate_zero, List.push_toArray, List.append_toArray, List.nil_append, List.cons_append]
  refine wpIn_wide.2 (wp_scope_straight ((wpIn_wide (n := d)).1 ?_))
  have hwide : ∀ k, Fence.wide.fn k := fun _ => trivial
  have hdep : Fence.wide.depth = none := rfl
  have hrnd : Fence.wide.round = none := rfl
  gi_wp2_with (gi_at_call 9; refine (callsIn_wide.2 (right_any _ _ _ _ _)).mono ?_; rintro e w' ⟨rfl, rfl⟩)
  rw [Exit.noGoto_ret]
  refine bodyPost_ret (results_none rfl _ _ _) rfl ?_
  exact ⟨⟨_, rfl⟩, h0⟩

def recV (w h m n : Int) (x : Nat) : Array Value := #[.int .i64 (x : Nat), rectV w h m n x]
theorem KB_b {B : Nat} {w : World} (hn : B + 4 ≤ w.heap.size) (W : World) (l : Nat) (o o' : Obj) (hl : w.heap.size ≤ l) (_ : W.heap[l]? = some o) (_ : o.isCells = false) (_ : o.isWalk = false) : KB B W (W.putObj l o') := fun k _ h2 =>
  (grownBy_putObj' W l o').block k (by have := (Array.getElem?_eq_some_iff.1 (by assumption : W.heap[l]? = some o)).1; omega) (fun e => by cases e; omega)
theorem all_stops (d : Nat) (B : Nat) (w h m n : Int) (W0 : World) (hB : B + 4 ≤ W0.heap.size)
    (hx0 : Boxed W0 (B + 0) 3 (.int .i64 w)) (hx1 : Boxed W0 (B + 1) 3 (.int .i64 h)) (hx2 : Boxed W0 (B + 2) 3 (.int .i64 m)) (hx3 : Boxed W0 (B + 3) 3 (.int .i64 n)) :
    SeqStopsK Fence.wide d Try.prog 22 #[.pointer (some ⟨B, 0, none⟩), .pointer (some ⟨B + 1, 0, none⟩), .pointer (some ⟨B + 2, 0, none⟩), .pointer (some ⟨B + 3, 0, none⟩)] (recV w h m n) (KB B)
      (fun ys => ys = List.range (cntI w h m n)) (fun pre => ∃ k, k ≤ cntI w h m n ∧ pre = List.range k) (cntI w h m n) W0 := fun l J Jx W hW hJ hJx hY h0 => by
  have hk := KB.of hW (B := B) (by omega)
  have k0 := hk.box hx0 (by omega)
  have k1 := hk.box hx1 (by omega)
  have k2 := hk.box hx2 (by omega)
  have k3 := hk.box hx3 (by omega)
  cases hr : rightI w h m n with
  | true =>
    have hcn : cntI w h m n = (m * n).toNat := by unfold cntI; rw [if_pos hr]
    rw [hcn] at hY ⊢
    exact all1_in d l B w h m n hr J Jx W hJ hY k0 k1 k2 k3 h0
  | false =>
    have hcn : cntI w h m n = 0 := by unfold cntI; rw [if_neg (by simp [hr])]
    rw [hcn]
    exact (all0_in d l B w h m n hr J W k0.cell k1.cell k2.cell k3.cell h0).mono fun e W' ⟨he, hj⟩ => ⟨he, .inl ⟨_, rfl, hj⟩⟩

/-- what split.All leaves: four boxes at B, B + 1, B + 2, B + 3 -/
structure Boxes (w h m n : Int) (W w' : World) : Prop where
  below : Below W.heap.size W w'
  size : w'.heap.size = W.heap.size + 4
  c0 : Boxed w' (W.heap.size + 0) 3 (.int .i64 w)
  c1 : Boxed w' (W.heap.size + 1) 3 (.int .i64 h)
  c2 : Boxed w' (W.heap.size + 2) 3 (.int .i64 m)
  c3 : Boxed w' (W.heap.size + 3) 3 (.int .i64 n)
theorem boxes_mk (w h m n : Int) (W : World) : Boxes w h m n W ((((W.alloc (.cells #[.int .i64 w] 3)).alloc (.cells #[.int .i64 h] 3)).alloc (.cells #[.int .i64 m] 3)).alloc (.cells #[.int .i64 n] 3)) := by
  have b0 := (((Boxed.new W 3 (.int .i64 w)).alloc (.cells #[.int .i64 h] 3)).alloc (.cells #[.int .i64 m] 3)).alloc (.cells #[.int .i64 n] 3)
  have b1 := ((Boxed.new (W.alloc (.cells #[.int .i64 w] 3)) 3 (.int .i64 h)).alloc (.cells #[.int .i64 m] 3)).alloc (.cells #[.int .i64 n] 3)
  have b2 := (Boxed.new ((W.alloc (.cells #[.int .i64 w] 3)).alloc (.cells #[.int .i64 h] 3)) 3 (.int .i64 m)).alloc (.cells #[.int .i64 n] 3)
  have b3 := Boxed.new (((W.alloc (.cells #[.int .i64 w] 3)).alloc (.cells #[.int .i64 h] 3)).alloc (.cells #[.int .i64 m] 3)) 3 (.int .i64 n)
  simp only [World.size_alloc] at b1 b2 b3
  exact ⟨((((Below.refl _ W).alloc (Nat.le_refl _) _).alloc (by simp) _).alloc (by simp; omega) _).alloc (by simp; omega) _, by simp, b0, b1, b2, b3⟩
theorem all_any (w h m n : Int) (W : World) :
    Calls Try.prog 15 #[.int .i64 w, .int .i64 h, .int .i64 m, .int .i64 n] W fun e w' => e = .returned (.func (.func 22) #[] #[.pointer (some ⟨W.heap.size, 0, none⟩), .pointer (some ⟨W.heap.size + 1, 0, none⟩), .pointer (some ⟨W.heap.size + 2, 0, none⟩), .pointer (some ⟨W.heap.size + 3, 0, none⟩)]) ∧ Boxes w h m n W w' := by
  go_enter Try.func15, Try.ntmps15
  go_wp2
  go_ret
  exact ⟨rfl, boxes_mk w h m n W⟩
end Go.Proofs.Ytekdhagmmflcnaa
