/- GopHolds: how far shots are ahead at the most; a set of few numbers as a map of bools. -/
import Derived.Test.YtmnkbcigjbiniaaHoP
namespace Go.Proofs.Ytmnkbcigjbiniaa.gopHolds
open Go.RowKit
open Go.Maps (int_keyed)

theorem part_of {n p b : Int} : ∀ (k t : Nat), t < tk n p b k → ∃ k', k' < k ∧ (t = tk n p b k' ∨ ∃ j, j < gapN n b k' ∧ t = tk n p b k' + 1 + j) := by
  intro k
  induction k with
  | zero => intro t h; rw [tk_zero] at h; omega
  | succ k ih =>
    intro t h
    by_cases c : t < tk n p b k
    · obtain ⟨k', h1, h2⟩ := ih t c
      exact ⟨k', by omega, h2⟩
    · rw [tk_next] at h
      by_cases d : t = tk n p b k
      · exact ⟨k, by omega, .inl d⟩
      · exact ⟨k, by omega, .inr ⟨t - tk n p b k - 1, by omega, by omega⟩⟩
theorem tk_all {n p b : Int} : tk n p b (cntA n p b) = (shots n p b).length := rfl
theorem delay_le {n p b : Int} (hok : okA n p b = true) : ∀ t, t ≤ (shots n p b).length → delayI ((shots n p b).map (·.num)) t ≤ b := by
  obtain ⟨⟨_, _, b0, _⟩, _⟩ := okA_yes hok
  have hs : (stepA b : Int) = b + 1 := by unfold stepA; omega
  intro t
  induction t with
  | zero => intro _; exact b0
  | succ t ih =>
    intro ht
    rw [delay_succ]
    have h1 := ih (by omega)
    obtain ⟨k, hk, h2 | ⟨j, hj, h2⟩⟩ := part_of (cntA n p b) t (by rw [tk_all]; omega)
    · subst h2
      have h3 : ((shots n p b).map (·.num))[tk n p b k]? = some ((ancA n b k : Nat) : Int) := by rw [List.getElem?_map, get_anchor hk]; rfl
      rw [h3, ← List.map_take, take_ahead (Nat.le_of_lt hk), mex_ahead]
      rcases Nat.eq_zero_or_pos k with h0 | h0
      · subst h0
        have e : ancA n b 0 = 0 := anc_zero _ _
        have e0 : tk n p b 0 = 0 := tk_zero
        simp only [Option.getD_some]
        omega
      · obtain ⟨k', rfl⟩ : ∃ k', k = k' + 1 := ⟨k - 1, by omega⟩
        have := (ancA_succ n b k').2
        have e0 : tk n p b (k' + 1) = ancA n b k' + 1 := tk_succ k'
        simp only [Option.getD_some]
        omega
    · subst h2
      have h3 : ((shots n p b).map (·.num))[tk n p b k + 1 + j]? = some ((ancA n b (k - 1) + 1 + j : Nat) : Int) := by rw [List.getElem?_map, get_btw hk hj]; rfl
      have h0 : 0 < k := by rcases Nat.eq_zero_or_pos k with h0 | h0
                            · subst h0; unfold gapN at hj; simp at hj
                            · exact h0
      rw [h3, ← List.map_take, take_part hk (Nat.le_of_lt hj), mex_part h0 hj]
      simp only [Option.getD_some]
      omega
theorem nums_bd {n p b : Int} (hok : okA n p b = true) : ∀ x ∈ (shots n p b).map (·.num), 0 ≤ x ∧ x ≤ 1000 := by
  intro x hx
  rw [← ahead_all] at hx
  obtain ⟨m, rfl, hm⟩ := (mem_ahead _ _).1 hx
  rw [tk_all, shots_len hok] at hm
  obtain ⟨_, _, h2⟩ := okA_yes hok
  omega

/-- Block B is a map in which the numbers of L are true, each once, and there are no others. -/
def SetZ (w : World) (B n : Nat) (L : List Int) : Prop :=
  ∃ D : DataW Unit, w.ownsMap Try.prog 3 elemB B n D ∧ (∀ x : Int, (Lit.int .i64 x).wf = true → Maps.has D (.int .i64 x) = decide (x ∈ L)) ∧ (∀ (x : Int) (z : DataW Unit), (Lit.int .i64 x).wf = true → x ∈ L → D.atKey (.int .i64 x) z = .lit (.bool true)) ∧ Maps.size D = L.length
theorem setz_made (w : World) : SetZ (w.alloc (.map #[] 0)) w.heap.size 0 [] :=
  ⟨.map [], World.ownsMap_made w _ _ _, fun x _ => by simp [Maps.has], fun x z _ h => by simp at h, rfl⟩
theorem SetZ.kept {w w' : World} {B n : Nat} {L : List Int} {row : Option Nat} (h : SetZ w B n L) (hg : w.grownBy w' row) (hne : some B ≠ row) : SetZ w' B n L := by
  obtain ⟨D, h1, h2⟩ := h
  exact ⟨D, h1.kept hg hne, h2⟩
theorem SetZ.alloc {w : World} {B n : Nat} {L : List Int} (h : SetZ w B n L) (o : Obj) : SetZ (w.alloc o) B n L := by
  obtain ⟨D, h1, h2⟩ := h
  exact ⟨D, h1.alloc o, h2⟩
theorem SetZ.mono {w : World} {B n n' : Nat} {L : List Int} (h : SetZ w B n L) (hn : n ≤ n') : SetZ w B n' L := by
  obtain ⟨D, h1, h2⟩ := h
  exact ⟨D, h1.mono hn, h2⟩
theorem SetZ.lt {w : World} {B n : Nat} {L : List Int} (h : SetZ w B n L) : B < w.heap.size := by
  obtain ⟨D, h1, h2⟩ := h
  exact h1.lt
theorem SetZ.look {w : World} {B n : Nat} {L : List Int} (h : SetZ w B n L) {x : Int} (hx : (Lit.int .i64 x).wf = true) (hm : x ∈ L) : (Instr.lookup 41 (.map (some B)) (.int .i64 x) false).run Try.prog w = .ok (.bool true) w := by
  obtain ⟨D, h1, _, h3, _⟩ := h
  obtain ⟨v, ps, hrun, hv⟩ := h1.lookup (int_keyed Try.underlying3) Try.underlying41 (zeroB w) (plainElem_bool Try.underlying4 false) (keyI hx)
  obtain ⟨c, rfl, hc⟩ := elemB_inv hv
  simp only [Prod.mk.injEq] at hc
  have := hc.1
  rw [h3 x _ hx hm] at this
  simp only [DataW.lit.injEq, Lit.bool.injEq] at this
  rw [this]
  exact hrun
theorem setz_put {w' : World} {B n : Nat} {D : DataW Unit} {L : List Int} {x : Int} (hx : (Lit.int .i64 x).wf = true) (hn : x ∉ L)
    (h2 : ∀ x : Int, (Lit.int .i64 x).wf = true → Maps.has D (.int .i64 x) = decide (x ∈ L)) (h3 : ∀ (x : Int) (z : DataW Unit), (Lit.int .i64 x).wf = true → x ∈ L → D.atKey (.int .i64 x) z = .lit (.bool true)) (h4 : Maps.size D = L.length) (ht : Maps.Tidy D)
    (h : w'.ownsMap Try.prog 3 elemB B n (D.put (.int .i64 x) (.lit (.bool true)))) : SetZ w' B n (L ++ [x]) := by
  refine ⟨_, h, fun y hy => ?_, fun y z hy hm => ?_, ?_⟩
  · by_cases c : y = x
    · subst c
      rw [Maps.has_put_same ht.isMap (by exact trivial)]
      simp
    · rw [Maps.has_put_other (by intro e; cases e; exact c rfl), h2 y hy]
      simp [c]
  · by_cases c : y = x
    · subst c
      rw [Maps.atKey_put_same ht.isMap (by exact trivial)]
    · rw [Maps.atKey_put_other (by intro e; cases e; exact c rfl)]
      refine h3 y z hy ?_
      simpa [c] using hm
  · rw [Maps.size_put ht, h2 x hx, decide_eq_false hn, h4]
    simp
theorem SetZ.len {w : World} {B n : Nat} {L : List Int} (h : SetZ w B n L) (ty : TypeId) : (Builtin.len_ #[41] ty #[.map (some B)]).run Try.prog w = .ok (.int .i64 (L.length : Nat)) w := by
  obtain ⟨D, h1, _, _, h4⟩ := h
  rw [← h4]
  exact h1.len Try.underlying41 ty
end Go.Proofs.Ytmnkbcigjbiniaa.gopHolds
