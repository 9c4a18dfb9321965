/- Rows that are kept: for GopOrders' walk. -/
import Derived.Test.YtmnkbcigjbiniaaGoD
namespace Go.Proofs.Ytmnkbcigjbiniaa
open Go.RowKit

/-- anchors that may be read -/
def ARow (w : World) (v : Value) (n p b : Int) : Prop := ∃ A c g, v = .slice A (cntA n p b) c ∧ (cntA n p b = 0 ∨ A = some ⟨g, 0, none⟩) ∧ ∀ j, j < cntA n p b → w.cell? ⟨g, j, none⟩ = some (ancV n b j)
theorem ARow.of {w w' : World} {n p b : Int} {v : Value} (h : w'.ownsRow w.heap.size 3 1 v (cntA n p b) ((List.range (cntA n p b)).map (ancV n b))) : ARow w' v n p b := by
  obtain ⟨A, c, g, hv, hA, hx⟩ := own_at h
  exact ⟨A, c, g, hv, hA.imp id (fun h => h.1), fun j hj => by rw [hx j (by omega)]; simp [hj]⟩
theorem ARow.later {w w' : World} {n p b : Int} {v : Value} (h : ARow w v n p b) (hb : Below w.heap.size w w') : ARow w' v n p b := by
  obtain ⟨A, c, g, hv, hA, hx⟩ := h
  exact ⟨A, c, g, hv, hA, fun j hj => cell_later (hx j hj) hb⟩
/-- shots that may be read -/
def LRow (w : World) (v : Value) (S : List Sh) : Prop := ∃ (xs : List ShX) (base : Nat), xs.map (·.1) = S ∧ w.ownsRow base 32 4 v xs.length (rowX xs) ∧ ∀ x ∈ xs, ShG x w
theorem LRow.later {w w' : World} {v : Value} {S : List Sh} (h : LRow w v S) (hb : Below w.heap.size w w') : LRow w' v S := by
  obtain ⟨xs, base, h1, h2, h3⟩ := h
  exact ⟨xs, base, h1, h2.kept (below_grown hb) (by cases v.ownBlock <;> simp), fun x hx => RefsAt.below (h3 x hx) hb⟩
theorem LRow.set {w : World} {v c : Value} {S : List Sh} {wB : Nat} (h : LRow w v S) (hw : w.heap[wB]? = some (.cells #[c] 27 (0, 0))) (u : Value) : LRow (w.setCell ⟨wB, 0, none⟩ u) v S := by
  obtain ⟨xs, base, h1, h2, h3⟩ := h
  have hk := kept_grown (ts := [27]) (grown_set w wB 0 u) hw (by decide)
  refine ⟨xs, base, h1, h2.kept (grown_set w wB 0 u) (.inr fun e => ?_), fun x hx => RefsAt.kept (h3 x hx) hk (by decide)⟩
  obtain ⟨cs, t, fr, h5, h6⟩ := own_type h2 _ e
  rw [hw] at h5; cases h5; cases h6
theorem LRow.form {w : World} {v : Value} {S : List Sh} (h : LRow w v S) : ∃ A c, v = .slice A S.length c := by
  obtain ⟨xs, base, h1, h2, h3⟩ := h
  obtain ⟨A, c, hv, _⟩ := shrow_of h2 h3
  exact ⟨A, c, by rw [hv, ← h1, List.length_map]⟩
theorem LRow.row {w : World} {v : Value} {S : List Sh} (h : LRow w v S) : ∃ (xs : List ShX) (A : Option Addr) (c : Nat), xs.map (·.1) = S ∧ v = .slice A xs.length c ∧ ShRow w A xs ∧ ∀ x ∈ xs, ShG x w := by
  obtain ⟨xs, base, h1, h2, h3⟩ := h
  obtain ⟨A, c, hv, hr⟩ := shrow_of h2 h3
  exact ⟨xs, A, c, h1, hv, hr, h3⟩
theorem LRow.at {w : World} {A : Option Addr} {N c : Nat} {S : List Sh} (h : LRow w (.slice A N c) S) {j : Nat} {s : Sh} (hs : S[j]? = some s) :
    ∃ g B m c', A = some ⟨g, 0, none⟩ ∧ w.cell? ⟨g, j * 4, none⟩ = some (.int .i64 s.num) ∧ w.cell? ⟨g, j * 4 + 1, none⟩ = some (.slice B m c') ∧ w.cell? ⟨g, j * 4 + 2, none⟩ = some (.bool s.kept) ∧ w.cell? ⟨g, j * 4 + 3, none⟩ = some (.int .i64 s.ret) ∧ RefsAt w (.slice B m c') s.refs := by
  obtain ⟨xs, A', c', h1, hv, hr, hg⟩ := h.row
  cases hv
  have hj : j < xs.length := by
    have := (List.getElem?_eq_some_iff.1 hs).1
    rw [← h1] at this
    simpa using this
  obtain ⟨g, B, m, c2, e, e0, e1, e2, e3, e4⟩ := hr.at hj
  have hx : xs[j].1 = s := by
    have h2 : (xs.map (·.1))[j]? = some xs[j].1 := by simp [hj]
    rw [h1, hs] at h2
    exact (Option.some.inj h2).symm
  have h5 := hg _ (List.getElem_mem hj)
  unfold ShG at h5
  rw [e4] at h5
  rw [hx] at e0 e2 e3 h5
  exact ⟨g, B, m, c2, e, e0, e1, e2, e3, h5⟩
theorem ARow.at {w : World} {A : Option Addr} {c : Nat} {n p b : Int} (h : ARow w (.slice A (cntA n p b) c) n p b) {j : Nat} (hj : j < cntA n p b) : ∃ g, A = some ⟨g, 0, none⟩ ∧ w.cell? ⟨g, j, none⟩ = some (.int .i64 (ancA n b j : Nat)) := by
  obtain ⟨A', c', g, hv, hA, hx⟩ := h
  cases hv
  exact ⟨g, hA.resolve_left (by omega), hx j hj⟩
/-- The telling, from its start to wherever it ends. -/
theorem telling {n p b stop : Int} {W1 : World} {wB stB N : Nat} {A : Option Addr} {cap : Nat} (hw : W1.heap[wB]? = some (.cells #[.slice A N cap] 27 (0, 0))) (hst : W1.heap[stB]? = some (.cells #[.int .i64 stop] 3 (0, 0))) (hL : LRow W1 (.slice A N cap) (shots n p b)) (hN : N = (shots n p b).length)
    (W : World) (hT : TI W1 0 W) (hx0 : Boxed W (W1.heap.size + 2 + 0) 3 (.int .i64 n)) (hx1 : W.heap[W1.heap.size + 2 + 1]? = some (.cells #[.int .i64 p, .int .i64 b] 23 (0, 0))) :
    Calls Try.prog 19 #[.func (.func 16) #[] #[.pointer (some ⟨W1.heap.size + 1, 0, none⟩), .pointer (some ⟨W1.heap.size, 0, none⟩), .pointer (some ⟨wB, 0, none⟩), .pointer (some ⟨stB, 0, none⟩)], .pointer (some ⟨W1.heap.size + 2, 0, none⟩), .pointer (some ⟨W1.heap.size + 2 + 1, 0, none⟩)] W
      fun e W' => e = .returned (.tuple #[]) ∧ ∃ K, TI W1 K W' ∧ (K = N ∨ ((K : Int) = stop ∧ K < N)) := by
  obtain ⟨xs, A', c', h1, hv, hr, hg⟩ := hL.row
  cases hv
  have hs4 := block_lt hx1
  refine (all1_any (W1.heap.size + 2) 16 _ n p b W (fun pre V => TI W1 pre.length V ∧ W1.heap.size + 4 ≤ V.heap.size) (fun V => ∃ K, TI W1 K V ∧ (K : Int) = stop ∧ K ≤ xs.length) (fun _ _ => by kernel_rfl) (fun pre V V' h hb => ⟨h.1.later hb, Nat.le_trans h.2 hb.size⟩) (fun pre x V hI hx hk => ?_) hx0 hx1 ⟨hT, by omega⟩).mono ?_
  · refine (told_any hw hst hr hg h1 V x pre.length hI.1 hI.2 hx hk).mono ?_
    rintro e V' ⟨rfl, hT', hK'⟩
    have hlt := (List.getElem?_eq_some_iff.1 hk).1
    rw [← hN] at hlt
    by_cases hs : (pre.length : Int) + 1 = stop
    · refine .inr ⟨by rw [← hs]; simp, pre.length + 1, hT', by omega, by omega⟩
    · refine .inl ⟨by simp [hs], ⟨by rw [List.length_append]; exact hT', Nat.le_trans hI.2 hK'.1⟩, hK'⟩
  · rintro e V' ⟨rfl, h | ⟨K, hTK, hKs, hKl⟩⟩
    · obtain ⟨ys, hy, hI, _⟩ := h
      refine ⟨rfl, ys.length, hI, .inl ?_⟩
      have := congrArg List.length hy
      rw [List.length_map] at this
      omega
    · by_cases hKN : K = xs.length
      · exact ⟨rfl, K, hTK, .inl hKN⟩
      · exact ⟨rfl, K, hTK, .inr ⟨hKs, by omega⟩⟩
end Go.Proofs.Ytmnkbcigjbiniaa
