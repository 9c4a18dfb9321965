/- GopHolds: the set of kept numbers at the operations. -/
import Derived.Test.YtmnkbcigjbiniaaHoW
namespace Go.Proofs.Ytmnkbcigjbiniaa.gopHolds
open Go.RowKit
open Go.Maps (int_keyed)
variable {w : World} {ops : Array Oper} {rest : List Oper} {o : Oper} {a : Act} {Q : Exit → Act → World → Prop}

theorem wpList_setz_put (hg : o.guard = none) (m x v : Operand) (hop : o.op = Op.mapUpdate 41 m x v) (B n : Nat) (L : List Int) (hm : a.eval m = .map (some B)) (h : SetZ w B n L) (hn : n < maxLen)
    (X : Int) (hx : a.eval x = .int .i64 X) (hv : a.eval v = .bool true) (hwf : (Lit.int .i64 X).wf = true) (hnot : X ∉ L)
    (hK : ∀ w', SetZ w' B (n + 1) (L ++ [X]) → w.grownBy w' (some B) → wpList Try.prog ops Q rest (a.put o.dst undef) w') : wpList Try.prog ops Q (o :: rest) a w := by
  obtain ⟨D, hown, h2, h3, h4⟩ := h
  refine wpList_mapUpdate_own _ hg _ _ _ 41 hop 3 4 (int_keyed Try.underlying3) Try.underlying41 elemB _ n D hm hown hn _ _ (.int .i64 X) hx hv (keyI hwf) (.lit (.bool true)) [] (plainElem_bool Try.underlying4 true) ?_
  intro w' hown' hgr
  exact hK w' (setz_put hwf hnot h2 h3 h4 (hown.tidy (int_keyed Try.underlying3)) hown') hgr
theorem setz_del {w w' : World} {B n : Nat} {D : DataW Unit} {L : List Int} {x : Int} (hx : (Lit.int .i64 x).wf = true) (hnd : L.Nodup) (hm : x ∈ L)
    (h2 : ∀ x : Int, (Lit.int .i64 x).wf = true → Maps.has D (.int .i64 x) = decide (x ∈ L)) (h3 : ∀ (x : Int) (z : DataW Unit), (Lit.int .i64 x).wf = true → x ∈ L → D.atKey (.int .i64 x) z = .lit (.bool true)) (h4 : Maps.size D = L.length) (h1 : w.ownsMap Try.prog 3 elemB B n D)
    (hown : w'.ownsMap Try.prog 3 elemB B n (D.del (.int .i64 x))) : SetZ w' B n (L.erase x) := by
  refine ⟨_, hown, fun y hy => ?_, fun y z hy hmy => ?_, ?_⟩
  · by_cases c : y = x
    · subst c
      rw [Maps.has_del_same]
      simp [hnd.mem_erase_iff]
    · rw [Maps.has_del_other (by intro e; cases e; exact c rfl), h2 y hy]
      simp [hnd.mem_erase_iff, c]
  · rw [hnd.mem_erase_iff] at hmy
    rw [Maps.atKey_del_other (by intro e; cases e; exact hmy.1 rfl)]
    exact h3 y z hy hmy.2
  · have := Maps.size_del (h1.tidy (int_keyed Try.underlying3)) (k := .int .i64 x)
    rw [h2 x hx, decide_eq_true hm, h4] at this
    rw [List.length_erase_of_mem hm]
    simp at this
    omega
theorem wpList_setz_del (hg : o.guard = none) (m x : Operand) (hop : o.op = Op.call { callee := Callee.builtin Builtin.delete, args := #[m, x], argTypes := #[41, 3] }) (B n : Nat) (L : List Int) (hm : a.eval m = .map (some B)) (h : SetZ w B n L) (hnd : L.Nodup)
    (X : Int) (hx : a.eval x = .int .i64 X) (hwf : (Lit.int .i64 X).wf = true) (hin : X ∈ L)
    (hK : ∀ w', SetZ w' B n (L.erase X) → w.grownBy w' (some B) → wpList Try.prog ops Q rest (a.put o.dst (.tuple #[])) w') : wpList Try.prog ops Q (o :: rest) a w := by
  obtain ⟨D, hown, h2, h3, h4⟩ := h
  refine wpList_delete_own _ hg _ _ 41 3 hop 4 (int_keyed Try.underlying3) Try.underlying41 elemB _ n D hm hown _ (.int .i64 X) hx (keyI hwf) ?_
  intro w' hown' ht
  exact hK w' (setz_del hwf hnd hin h2 h3 h4 hown hown') ht.grown
theorem wpList_setz_len (hg : o.guard = none) (m : Operand) (hop : o.op = Op.call { callee := Callee.builtin Builtin.len, args := #[m], argTypes := #[41] }) (B n : Nat) (L : List Int) (hm : a.eval m = .map (some B)) (h : SetZ w B n L)
    (hK : wpList Try.prog ops Q rest (a.put o.dst (.int .i64 (L.length : Nat))) w) : wpList Try.prog ops Q (o :: rest) a w := by
  obtain ⟨D, hown, h2, h3, h4⟩ := h
  refine wpList_len_own _ hg _ 41 hop 3 4 Try.underlying41 elemB _ n D hm hown ?_
  rw [h4]
  exact hK
end Go.Proofs.Ytmnkbcigjbiniaa.gopHolds
