/- The contract of gop.List: its walk. -/
import Derived.Test.YtmnkbcigjbiniaaGpQ
namespace Go.Proofs.Ytmnkbcigjbiniaa
open Go.RowKit Go.Shelf
attribute [local go_sem] Oper.semAt_some

/-- What a call that answers the shots leaves. -/
def ShotsPost (n p b : Int) (w : World) (e : Ending) (w' : World) : Prop := ∃ v, ∃ xs : List ShX, e = .returned v ∧ xs.map (·.1) = shots n p b ∧ w'.ownsRow w.heap.size 32 4 v xs.length (rowX xs) ∧ (∀ x ∈ xs, ShG x w') ∧ Below w.heap.size w w'
theorem refs_putObj {x : ShX} {W : World} (h : ShG x W) (D : Nat) (o o' : Obj) (hD : W.heap[D]? = some o) (hc : o.isCells = false) : ShG x (W.putObj D o') := by
  rcases h with h | ⟨h, g, hv, hh⟩
  · exact .inl h
  · refine .inr ⟨h, g, hv, (World.putObj_heap_other (fun e => ?_)).trans hh⟩
    subst e
    rw [hD] at hh; cases hh; cases hc
theorem KP_b {B : Nat} {w : World} (hn : B + 2 ≤ w.heap.size) (W : World) (l : Nat) (o o' : Obj) (hl : w.heap.size ≤ l) (h : W.heap[l]? = some o) (hc : o.isCells = false) (_ : o.isWalk = false) : KP B W (W.putObj l o') := by
  have hg := grownBy_putObj' W l o'
  refine ⟨hg.size, fun k _ h2 => hg.block k (by have := block_lt h; omega) (fun e => by cases e; omega), fun k cs fr _ h2 => (hg.block k (block_lt h2) (fun e => ?_)).trans h2⟩
  cases e
  rw [h] at h2; cases h2; cases hc

theorem refs_form {v : Value} {l : List Int} {W : World} (h : RefsAt W v l) : ∃ A m c, v = .slice A m c := by
  rcases h with ⟨_, h⟩ | ⟨_, g, h, _⟩
  · exact ⟨_, _, _, h⟩
  · exact ⟨_, _, _, h⟩
theorem one_cells {x : ShX} {W : World} (h : ShG x W) : ∀ u ∈ cellX x, u.oneCell' = true := by
  have hv : x.2.oneCell' = true := by
    rcases h with ⟨_, h⟩ | ⟨_, g, h, _⟩ <;> rw [h] <;> rfl
  intro u hu
  simp only [cellX, List.mem_cons, List.not_mem_nil, or_false] at hu
  rcases hu with rfl | rfl | rfl | rfl
  · rfl
  · exact hv
  · rfl
  · rfl

set_option maxRecDepth 100000 in
set_option maxHeartbeats 4000000 in
theorem list_any (n p b : Int) (W : World) :
    Calls Try.prog 10 #[.int .i64 n, .agg #[.int .i64 p, .int .i64 b]] W (ShotsPost n p b W) := by
  obtain ⟨i0, hi, hz0, hz1, hz2⟩ := info_parts info32
  have hcn := shots_le n p b
  refine (callsIn_wide (n := 8)).1 ?_
  refine callsIn_of_wp_marks Try.func10 rfl trivial ?_ rfl
  simp only [Try.ntmps10, List.size_toArray, List.length_cons, List.length_nil, Nat.reduceAdd, Nat.reduceSub, Array.replicate_succ, Array.replicate_zero, List.push_toArray, List.append_toArray, List.nil_append, List.cons_append]
  have hwide : ∀ k, Fence.wide.fn k := fun _ => trivial
  have hdep : Fence.wide.depth = none := rfl
  have hrnd : Fence.wide.round = none := rfl
  have bO0 := Boxed.new (W.alloc (.cells #[.int .i64 p, .int .i64 b] 23)) 27 (.slice none 0 0)
  have hB1 : Below W.heap.size W ((W.alloc (.cells #[.int .i64 p, .int .i64 b] 23)).alloc (.cells #[.slice none 0 0] 27)) := ((Below.refl _ W).alloc (Nat.le_refl _) _).alloc (by simp) _
  rw [World.size_alloc] at bO0
  have HO := Lib.hid bO0
  have HB1 := Lib.hid hB1
  clear bO0 hB1
  gi_wp2_with (gi_at_call 15; refine (callsIn_wide.2 (all_any _ _ _ _)).mono ?_; rintro e W0 ⟨rfl, hA⟩)
  have hB0 : Below W.heap.size W W0 := HB1.out.trans (hA.below.mono (by simp; omega))
  have bO : Boxed W0 (W.heap.size + 1) 27 (.slice none 0 0) := (hA.below.block (W.heap.size + 1) (by simp)).trans HO.out
  have hsz := hA.size
  have c0 := hA.c0
  have c1 := hA.c1
  simp only [World.size_alloc] at hsz c0 c1
  clear HB1 HO hA
  refine range_all rfl (by omega) (gf := 19) (lb := #[.pointer (some ⟨W.heap.size + 1 + 1, 0, none⟩), .pointer (some ⟨W.heap.size + 1 + 1 + 1, 0, none⟩)]) rfl trivial (enters_of Try.func19 (by kernel_rfl) rfl)
    (all_gives 7 (W.heap.size + 1 + 1) n p b W0 c0 c1) KP.trans (KP_b (by omega)) (Below.refl _ _) (fun _ => rfl)
    (fun pre W' => (((∃ v, Boxed W' (W.heap.size + 1) 27 v ∧ W'.ownsRow (W.heap.size + 4) 32 4 v pre.length (rowX pre) ∧ True) ∧ (∀ x ∈ pre, ShG x W')) ∧ Below W.heap.size W W') ∧ W.heap.size + 4 ≤ W'.heap.size)
    (OwnFrom.and (OwnFrom.and (OwnFrom.and (Own.from (holdsRow_own (W.heap.size + 4) (W.heap.size + 1) 27 32 4 (fun pre => pre.length) (fun pre => rowX pre) (fun _ _ => True)) _) (all_own _)) (ownFrom_below (Nat.le_refl _) (by omega))) (size_own _ _))
    ⟨⟨⟨⟨_, bO, World.ownsRow_nil _ _ _ _, trivial⟩, by simp⟩, hB0⟩, by omega⟩
    (fun x a' W' => ShG x W' ∧ ∃ Bx, W'.heap[Bx]? = some (.cells (cellX x).toArray 32 (0, 0)) ∧ a' = { tmps := #[.int .i64 n, .agg #[.int .i64 p, .int .i64 b], undef, .pointer (some ⟨W.heap.size, 0, none⟩), .slice none 0 0, .pointer (some ⟨W.heap.size + 1, 0, none⟩), .pointer (some ⟨Bx, 0, none⟩), .int .i64 n, .agg #[.int .i64 p, .int .i64 b], .func (.func 19) #[] #[.pointer (some ⟨W.heap.size + 1 + 1, 0, none⟩), .pointer (some ⟨W.heap.size + 1 + 1 + 1, 0, none⟩)], shV x.1 x.2, undef, undef, undef, undef, undef], defers := [] })
    (fun x a' s X Y row hs hg hr => by obtain ⟨e0, Bx, e1, e2⟩ := hs; exact ⟨refs_own x X Y row e0 hg (fun r e => (hr r e).2), Bx, blk_own Bx 32 (fun (_ : Unit) => (cellX x).toArray) () X Y row e1 hg (fun r e => (hr r e).2), e2⟩)
    ?assign ?body ?done
  case assign =>
    rintro l pre x W1 K ⟨⟨⟨⟨v, hv, hrow, _⟩, hall⟩, hB⟩, h5⟩ hG hK
    obtain ⟨sh, rv⟩ := x
    obtain ⟨A, m, c, rfl⟩ := refs_form hG
    simp only [encX, shV]
    have hs1 := hB.size
    have hb2 := (Below.refl W1.heap.size W1).alloc (Nat.le_refl _) (.cells #[.int .i64 sh.num, .slice A m c, .bool sh.kept, .int .i64 sh.ret] 32)
    have HB2 := Lib.hid hb2
    have HALL := Lib.hid hall
    have HG := Lib.hid hG
    clear hb2 hall hG
    gi_wp2
    exact hK _ _ ((KeepsOthers.alloc _ _).from _) (KP.of HB2.out (by omega)) ⟨⟨⟨⟨v, hv.alloc _, hrow.alloc _, trivial⟩, fun x hx => RefsAt.below (HALL.out x hx) HB2.out⟩, hB.alloc hs1 _⟩, by simp; omega⟩ ⟨RefsAt.below HG.out HB2.out, W1.heap.size, heap_alloc_new _ _, rfl⟩
  case body =>
    rintro l pre x a' W1 hl ⟨r, hr⟩ ⟨⟨⟨⟨v, hv, hrow, _⟩, hall⟩, hB⟩, h5⟩ ⟨hG, Bx, hBx, rfl⟩ hlt
    obtain ⟨sh, rv⟩ := x
    obtain ⟨A, m, c, rfl⟩ := refs_form hG
    have hc := hv.cell
    have hs1 := hB.size
    have hrl : (cellX (sh, .slice A m c)).toArray = #[.int .i64 sh.num, .slice A m c, .bool sh.kept, .int .i64 sh.ret] := rfl
    rw [hrl] at hBx
    clear hrl
    have r0 := cell_of_row _ _ 0 _ _ _ hBx
    have r1 := cell_of_row _ _ 1 _ _ _ hBx
    have r2 := cell_of_row _ _ 2 _ _ _ hBx
    have r3 := cell_of_row _ _ 3 _ _ _ hBx
    simp only [List.getElem?_toArray, List.getElem?_cons_zero, List.getElem?_cons_succ] at r0 r1 r2 r3
    have HALL := Lib.hid hall
    have HG := Lib.hid hG
    clear hBx hr hall hG
    have hlt1 : pre.length < 1000 := Nat.lt_of_lt_of_le hlt hcn
    have h1c : ∀ u ∈ cellX (sh, .slice A m c), u.oneCell' = true := one_cells HG.out
    have H1C := Lib.hid h1c
    clear h1c
    gi_wp2_with (gi_at_builtin; refine wpListIn_append_own _ rfl _ _ 27 rfl (W.heap.size + 4) 32 i0 (.agg #[.int .i64 0, .slice none 0 0, .bool false, .int .i64 0]) 4 48 Try.underlying27 hi hz0 hz1 hz2 rfl (by decide) v pre.length (rowX pre) rfl (hrow.alloc _) ⟨W1.heap.size, 0, none⟩ 1 1 (cellX (sh, .slice A m c)) rfl rfl (cells_new _ (cellX (sh, .slice A m c)).toArray _) H1C.out (by unfold maxLen; omega) (by omega) (by simp; omega) ?_; intro v' w1 hown' hgrow _; obtain ⟨g', cap', rfl⟩ := ownsRow_succ hown'; obtain ⟨hv1, hv2, hr2, hk2, hb2⟩ := hv.appended (n₀ := W.heap.size) (by decide) (own_mono hrow (by omega)) hs1 (Nat.le_succ _) (own_mono hown' (by omega)) hgrow; have hc1 := hv1.cell; have hf1 := hv1.frozen)
    refine ⟨hk2.from _, append_KP hrow h5 hgrow (by omega) (by omega), ⟨⟨⟨⟨_, hv2, ?_, trivial⟩, ?_⟩, hB.trans hb2⟩, by have := hb2.size; omega⟩⟩
    · rw [rowX_snoc, List.length_append]
      exact hown'.kept (grownBy_setCell' w1 (W.heap.size + 1) _) (.inr (hv1.not_row (by decide) hown').symm)
    · intro y hy
      refine append_refs hrow hgrow hv (fun r hr e => by have := (hrow.lt r hr).1; omega) ?_
      rcases List.mem_append.1 hy with hy | hy
      · exact HALL.out y hy
      · rw [List.mem_singleton] at hy
        subst hy
        exact HG.out
  case done =>
    rintro D ys W1 hD hys ⟨⟨⟨⟨v, hv, hrow, _⟩, hall⟩, hB⟩, h5⟩ hK
    have hc := hv.cell
    have HALL := Lib.hid hall
    have HYS := Lib.hid hys
    clear hall hys
    gi_wp2
    refine ⟨by simp, .inl ⟨_, _, rfl, run_takeDeferred hK, ?_⟩⟩
    exact ⟨_, results_tmp rfl _ _ _, v, ys, rfl, HYS.out, own_mono (ownsRow_putObj hrow _ hK rfl) (by omega), fun x hx => refs_putObj (HALL.out x hx) D _ _ hK rfl, hB.trans (belowK_b (w := W) (Nat.le_refl _) W1 D _ _ (by omega) hK rfl rfl)⟩
end Go.Proofs.Ytmnkbcigjbiniaa
