/- A set of whole numbers, as a map of bools that the call made. -/
import Derived.Test.YtmnkbcigjbiniaaDlP
import Derived.Maps.OwnOps
import Derived.Maps.OwnSet
namespace Go.Proofs.Ytmnkbcigjbiniaa
open Go.RowKit
open Go.Maps (int_keyed keyOf_int_mk)

noncomputable def elemB : Value → Option (DataW Unit × List MemPlace) := plainElem Try.prog 4
/-- Block b is a map in which the numbers of s are true, and no others. -/
def SetAt (w : World) (b n : Nat) (s : Int → Bool) : Prop :=
  ∃ D : DataW Unit, w.ownsMap Try.prog 3 elemB b n D ∧ ∀ x : Int, (Lit.int .i64 x).wf = true → D.atKey (.int .i64 x) (.lit (.bool false)) = .lit (.bool (s x))
theorem keyI {x : Int} (hx : (Lit.int .i64 x).wf = true) : keyOf Try.prog 3 (.int .i64 x) = some (.int .i64 x) := keyOf_int_mk Try.underlying3 hx
theorem zeroB (w : World) : (zeroValue 4).run Try.prog w = .ok (.bool false) w := by kernel_rfl
theorem elemB_inv {v : Value} {z : DataW Unit × List MemPlace} (h : elemB v = some z) : ∃ c, v = .bool c ∧ z = (.lit (.bool c), []) := by
  unfold elemB plainElem at h
  rw [Try.underlying4] at h
  cases v <;> simp at h
  subst h
  exact ⟨_, rfl, rfl⟩
theorem set_made (w : World) : SetAt (w.alloc (.map #[] 0)) w.heap.size 0 (fun _ => false) :=
  ⟨.map [], World.ownsMap_made w _ _ _, fun x _ => WideAt.atKey_none _ (fun p hp => by cases hp)⟩
theorem SetAt.kept {w w' : World} {b n : Nat} {s : Int → Bool} {row : Option Nat} (h : SetAt w b n s) (hg : w.grownBy w' row) (hne : some b ≠ row) : SetAt w' b n s := by
  obtain ⟨D, h1, h2⟩ := h
  exact ⟨D, h1.kept hg hne, h2⟩
theorem SetAt.alloc {w : World} {b n : Nat} {s : Int → Bool} (h : SetAt w b n s) (o : Obj) : SetAt (w.alloc o) b n s := by
  obtain ⟨D, h1, h2⟩ := h
  exact ⟨D, h1.alloc o, h2⟩
theorem SetAt.mono {w : World} {b n n' : Nat} {s : Int → Bool} (h : SetAt w b n s) (hn : n ≤ n') : SetAt w b n' s := by
  obtain ⟨D, h1, h2⟩ := h
  exact ⟨D, h1.mono hn, h2⟩
theorem SetAt.lt {w : World} {b n : Nat} {s : Int → Bool} (h : SetAt w b n s) : b < w.heap.size := by
  obtain ⟨D, h1, h2⟩ := h
  exact h1.lt
theorem SetAt.look {w : World} {b n : Nat} {s : Int → Bool} (h : SetAt w b n s) {x : Int} (hx : (Lit.int .i64 x).wf = true) : (Instr.lookup 41 (.map (some b)) (.int .i64 x) false).run Try.prog w = .ok (.bool (s x)) w := by
  obtain ⟨D, h1, h2⟩ := h
  obtain ⟨v, ps, hrun, hv⟩ := h1.lookup (int_keyed Try.underlying3) Try.underlying41 (zeroB w) (plainElem_bool Try.underlying4 false) (keyI hx)
  obtain ⟨c, rfl, hc⟩ := elemB_inv hv
  simp only [Prod.mk.injEq] at hc
  have := hc.1
  rw [h2 x hx] at this
  simp only [DataW.lit.injEq, Lit.bool.injEq] at this
  rw [this]
  exact hrun
theorem set_put {w' : World} {b n : Nat} {D : DataW Unit} {s : Int → Bool} {x : Int} (hx : (Lit.int .i64 x).wf = true) (hD : ∀ x : Int, (Lit.int .i64 x).wf = true → D.atKey (.int .i64 x) (.lit (.bool false)) = .lit (.bool (s x))) (hm : Maps.IsMap D)
    (h : w'.ownsMap Try.prog 3 elemB b n (D.put (.int .i64 x) (.lit (.bool true)))) : SetAt w' b n (fun y => y == x || s y) := by
  refine ⟨_, h, fun y hy => ?_⟩
  by_cases c : y = x
  · subst c
    rw [Maps.atKey_put_same hm (by exact trivial)]
    simp
  · rw [Maps.atKey_put_other (by intro e; cases e; exact c rfl), hD y hy]
    simp [c]
theorem wf_in {x : Int} (h0 : -9223372036854775808 ≤ x) (h1 : x ≤ 9223372036854775807) : (Lit.int .i64 x).wf = true := WalkArith.wf_i64 ⟨h0, h1⟩
end Go.Proofs.Ytmnkbcigjbiniaa
