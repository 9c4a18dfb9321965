/- SplitCovers: the plain law: the parts cover a band, each place once. -/
import Derived.Test.YtekdhagmmflcnaaOf
namespace Go.Proofs.Ytekdhagmmflcnaa.splitCovers
open Go.RowKit

theorem from_zero (s p : Int) : fromI s p 0 = 0 := by simp [fromI]
theorem from_top {s p : Int} (p0 : 1 ≤ p) : fromI s p p = s := by unfold fromI; exact Int.mul_ediv_cancel _ (by omega)
theorem from_le {s p i j : Int} (h0 : 0 ≤ s) (p0 : 1 ≤ p) (h : i ≤ j) : fromI s p i ≤ fromI s p j := by
  unfold fromI
  exact Int.ediv_le_ediv (by omega) (Int.mul_le_mul_of_nonneg_left h h0)
theorem from_lt {s p i j : Int} (h0 : 0 ≤ s) (p0 : 1 ≤ p) (h : fromI s p i < fromI s p j) : i < j := by
  apply Classical.byContradiction
  intro hc
  have := from_le (s := s) (p := p) h0 p0 (show j ≤ i by omega)
  omega
theorem from_wide {s p i : Int} (p0 : 1 ≤ p) : s / p ≤ fromI s p (i + 1) - fromI s p i ∧ fromI s p (i + 1) - fromI s p i ≤ s / p + 1 := by
  unfold fromI
  rw [Int.mul_add, Int.mul_one]
  generalize s * i = u
  have e1 := Int.mul_ediv_add_emod u p
  have e2 := Int.mul_ediv_add_emod s p
  have e3 := Int.mul_ediv_add_emod (u + s) p
  have r1 := Int.emod_nonneg u (by omega : p ≠ 0)
  have r2 := Int.emod_lt_of_pos u (by omega : 0 < p)
  have r3 := Int.emod_nonneg s (by omega : p ≠ 0)
  have r4 := Int.emod_lt_of_pos s (by omega : 0 < p)
  have r5 := Int.emod_nonneg (u + s) (by omega : p ≠ 0)
  have r6 := Int.emod_lt_of_pos (u + s) (by omega : 0 < p)
  have f : p * ((u + s) / p - u / p - s / p) = u % p + s % p - (u + s) % p := by
    rw [Int.mul_sub, Int.mul_sub]; omega
  obtain ⟨t, ht⟩ : ∃ t, t = (u + s) / p - u / p - s / p := ⟨_, rfl⟩
  rw [← ht] at f
  have t0 : -1 < t := by
    apply Classical.byContradiction
    intro hc
    have := Int.mul_le_mul_of_nonneg_left (show t ≤ -1 by omega) (show 0 ≤ p by omega)
    omega
  have t1 : t < 2 := by
    apply Classical.byContradiction
    intro hc
    have := Int.mul_le_mul_of_nonneg_left (show 2 ≤ t by omega) (show 0 ≤ p by omega)
    omega
  clear f e1 e2 e3
  omega
theorem from_hit' {s p x : Int} (hx : 0 ≤ x) : ∀ N : Nat, x < fromI s p N → ∃ i : Nat, i < N ∧ fromI s p i ≤ x ∧ x < fromI s p (i + 1) := by
  intro N
  induction N with
  | zero => intro h; rw [Int.natCast_zero, from_zero] at h; omega
  | succ N ih =>
    intro h
    by_cases c : x < fromI s p N
    · obtain ⟨i, h1, h2⟩ := ih c; exact ⟨i, by omega, h2⟩
    · exact ⟨N, by omega, by omega, by rw [Int.natCast_add] at h; exact h⟩
theorem from_hit {s p x : Int} (p0 : 1 ≤ p) (hx : 0 ≤ x) (h1 : x < s) : ∃ i : Nat, (i : Int) < p ∧ fromI s p i ≤ x ∧ x < fromI s p (i + 1) := by
  have e : ((p.toNat : Nat) : Int) = p := by omega
  obtain ⟨i, a, b⟩ := from_hit' (s := s) (p := p) hx p.toNat (by rw [e, from_top p0]; exact h1)
  exact ⟨i, by omega, b⟩

theorem inAt_iff {a b m n x y : Int} {k : Nat} : inAt a b m n x y k = true ↔ (fromI a m (colI m k) ≤ x ∧ x < fromI a m (colI m k + 1)) ∧ fromI b n (rowI m n k) ≤ y ∧ y < fromI b n (rowI m n k + 1) := by
  simp only [inAt, inI, Bool.and_eq_true, decide_eq_true_eq]
  omega
theorem in_uniq {a b m n x y : Int} {k k' : Nat} (ha : 0 ≤ a) (hb : 0 ≤ b) (hm : 1 ≤ m) (hn : 1 ≤ n) (h : inAt a b m n x y k = true) (h' : inAt a b m n x y k' = true) (hk : k < (m * n).toNat) (hk' : k' < (m * n).toNat) : k = k' := by
  rw [inAt_iff] at h h'
  obtain ⟨⟨x1, x2⟩, y1, y2⟩ := h
  obtain ⟨⟨x3, x4⟩, y3, y4⟩ := h'
  have c1 := from_lt ha hm (show fromI a m (colI m k) < fromI a m (colI m k' + 1) by omega)
  have c2 := from_lt ha hm (show fromI a m (colI m k') < fromI a m (colI m k + 1) by omega)
  have c3 := from_lt hb hn (show fromI b n (rowI m n k) < fromI b n (rowI m n k' + 1) by omega)
  have c4 := from_lt hb hn (show fromI b n (rowI m n k') < fromI b n (rowI m n k + 1) by omega)
  unfold colI at c1 c2
  unfold rowI at c3 c4
  have e : (m * n).toNat = m.toNat * n.toNat := by
    have := Int.toNat_mul (show 0 ≤ m by omega) (show 0 ≤ n by omega)
    exact this
  rw [e] at hk hk'
  have d1 : k / m.toNat < n.toNat := Nat.div_lt_of_lt_mul hk
  have d2 : k' / m.toNat < n.toNat := Nat.div_lt_of_lt_mul hk'
  rw [Nat.mod_eq_of_lt d1, Nat.mod_eq_of_lt d2] at c3 c4
  have g1 := Nat.div_add_mod k m.toNat
  have g2 := Nat.div_add_mod k' m.toNat
  have q1 : k / m.toNat = k' / m.toNat := by omega
  have q2 : k % m.toNat = k' % m.toNat := by omega
  rw [q1, q2] at g1
  omega
theorem of_eq {a b m n x y : Int} {k : Nat} (hr : rightI a b m n = true) (h : inAt a b m n x y k = true) (hk : k < (m * n).toNat) : ofI a b m n x y = k := by
  have hc : cntI a b m n = (m * n).toNat := by unfold cntI; rw [if_pos hr]
  obtain ⟨a0, _, b0, _, m0, _, n0, _⟩ := rightI_yes hr
  refine of_some (by omega) (fun j hj => ?_) h
  have hj' := List.mem_range.1 hj
  cases hi : inAt a b m n x y j with
  | false => rfl
  | true => exact absurd (in_uniq (by omega) (by omega) m0 n0 hi h (by omega) hk) (by omega)
theorem of_hit {a b m n x y : Int} (hr : rightI a b m n = true) (hx0 : 0 ≤ x) (hx1 : x < a) (hy0 : 0 ≤ y) (hy1 : y < b) : ∃ k : Nat, k < (m * n).toNat ∧ inAt a b m n x y k = true ∧ ofI a b m n x y = k := by
  obtain ⟨a0, _, b0, _, m0, _, n0, _⟩ := rightI_yes hr
  obtain ⟨i, i0, i1, i2⟩ := from_hit m0 hx0 hx1
  obtain ⟨j, j0, j1, j2⟩ := from_hit n0 hy0 hy1
  have hk := idx_lt (by omega : 0 ≤ m) i0 j0
  have h1 : (j * m.toNat + i) % m.toNat = i := by rw [Nat.mul_comm, Nat.mul_add_mod, Nat.mod_eq_of_lt (by omega)]
  have h2 : (j * m.toNat + i) / m.toNat = j := by rw [Nat.mul_comm, Nat.mul_add_div (by omega), Nat.div_eq_of_lt (by omega)]; omega
  have h3 : j % n.toNat = j := Nat.mod_eq_of_lt (by omega)
  have hin : inAt a b m n x y (j * m.toNat + i) = true := by
    rw [inAt_iff]
    unfold colI rowI
    rw [h1, h2, h3]
    exact ⟨⟨i1, i2⟩, j1, j2⟩
  exact ⟨_, hk, hin, of_eq hr hin hk⟩
theorem in_of {a b m n x y : Int} {k : Nat} (hr : rightI a b m n = true) (hx0 : 0 ≤ x) (hx1 : x < a) (hy0 : 0 ≤ y) (hy1 : y < b) (h : ofI a b m n x y = k) : inAt a b m n x y k = true := by
  obtain ⟨k', _, h1, h2⟩ := of_hit hr hx0 hx1 hy0 hy1
  rw [h] at h2
  obtain rfl : k = k' := by omega
  exact h1

theorem row_inj {a x y x' y' : Int} (h0 : 0 ≤ x) (h1 : x < a) (k0 : 0 ≤ x') (k1 : x' < a) (h : y * a + x = y' * a + x') : x = x' ∧ y = y' := by
  have key : y = y' := by
    rcases Int.lt_trichotomy y y' with c | c | c
    · have := Int.mul_le_mul_of_nonneg_right (show y + 1 ≤ y' by omega) (show 0 ≤ a by omega)
      rw [Int.add_mul] at this
      omega
    · exact c
    · have := Int.mul_le_mul_of_nonneg_right (show y' + 1 ≤ y by omega) (show 0 ≤ a by omega)
      rw [Int.add_mul] at this
      omega
  subst key
  exact ⟨by omega, rfl⟩

/-- the sides and the corner of a part -/
def wideI (a m : Int) (k : Nat) : Int := fromI a m (colI m k + 1) - fromI a m (colI m k)
def highI (b m n : Int) (k : Nat) : Int := fromI b n (rowI m n k + 1) - fromI b n (rowI m n k)
/-- the place of a place among its part's -/
def posI (a b m n : Int) (k : Nat) (x y : Int) : Int := (y - fromI b n (rowI m n k)) * wideI a m k + (x - fromI a m (colI m k))
/-- what a place holds behind k parts and p places more -/
def valI (a b m n : Int) (k : Nat) (p : Int) (x y : Int) : Int := if ofI a b m n x y < k ∨ ofI a b m n x y = k ∧ posI a b m n k x y < p then 1 else 0
def State (a b m n : Int) (k : Nat) (p : Int) (zs : List Int) : Prop := zs.length = (a * b).toNat ∧ ∀ x y : Int, 0 ≤ x → x < a → 0 ≤ y → y < b → zs[(y * a + x).toNat]? = some (valI a b m n k p x y)

theorem at_lt {a b x y : Int} (h0 : 0 ≤ x) (h1 : x < a) (k0 : 0 ≤ y) (k1 : y < b) : 0 ≤ y * a ∧ y * a + x < a * b := by
  have h2 := Int.mul_le_mul_of_nonneg_right (show y + 1 ≤ b by omega) (show 0 ≤ a by omega)
  have h3 := Int.mul_nonneg k0 (show 0 ≤ a by omega)
  rw [Int.add_mul, Int.mul_comm b a] at h2
  omega
theorem pos_nonneg {a b m n x y : Int} {k : Nat} (h : inAt a b m n x y k = true) : 0 ≤ posI a b m n k x y ∧ posI a b m n k x y < wideI a m k * highI b m n k := by
  rw [inAt_iff] at h
  obtain ⟨⟨x1, x2⟩, y1, y2⟩ := h
  have := at_lt (a := wideI a m k) (b := highI b m n k) (x := x - fromI a m (colI m k)) (y := y - fromI b n (rowI m n k)) (by omega) (by unfold wideI; omega) (by omega) (by unfold highI; omega)
  unfold posI
  omega
theorem start {a b m n : Int} (hr : rightI a b m n = true) : State a b m n 0 0 (List.replicate (a * b).toNat 0) := by
  refine ⟨by simp, fun x y hx0 hx1 hy0 hy1 => ?_⟩
  have := at_lt hx0 hx1 hy0 hy1
  obtain ⟨k, hk, hin, ho⟩ := of_hit hr hx0 hx1 hy0 hy1
  rw [List.getElem?_replicate, if_pos (by omega)]
  unfold valI
  rw [if_neg]
  rintro (h | ⟨h, hp⟩)
  · omega
  · have := (pos_nonneg (in_of hr hx0 hx1 hy0 hy1 h)).1
    omega
theorem full {a b m n : Int} (hr : rightI a b m n = true) {zs : List Int} (h : State a b m n (m * n).toNat 0 zs) : ∀ q, q < (a * b).toNat → zs[q]? = some 1 := by
  obtain ⟨a0, _, b0, _, m0, _, n0, _⟩ := rightI_yes hr
  intro q hq
  have e1 := Int.mul_ediv_add_emod (q : Int) a
  have r1 := Int.emod_nonneg (q : Int) (by omega : a ≠ 0)
  have r2 := Int.emod_lt_of_pos (q : Int) (by omega : 0 < a)
  have d0 : 0 ≤ (q : Int) / a := Int.ediv_nonneg (by omega) (by omega)
  have d1 : (q : Int) / a < b := Int.ediv_lt_of_lt_mul (by omega) (by rw [Int.mul_comm]; omega)
  have := h.2 ((q : Int) % a) ((q : Int) / a) r1 r2 d0 d1
  rw [Int.mul_comm, e1, Int.toNat_natCast] at this
  rw [this]
  obtain ⟨k, hk, hin, ho⟩ := of_hit hr r1 r2 d0 d1
  unfold valI
  rw [if_pos (.inl (by omega))]
theorem next {a b m n : Int} (hr : rightI a b m n = true) {k : Nat} {p : Int} (hp : wideI a m k * highI b m n k ≤ p ∨ wideI a m k ≤ 0 ∨ highI b m n k ≤ 0) {zs : List Int} (h : State a b m n k p zs) : State a b m n (k + 1) 0 zs := by
  refine ⟨h.1, fun x y hx0 hx1 hy0 hy1 => ?_⟩
  rw [h.2 x y hx0 hx1 hy0 hy1]
  congr 1
  unfold valI
  by_cases c : ofI a b m n x y < k
  · rw [if_pos (.inl c), if_pos (.inl (by omega))]
  · by_cases c2 : ofI a b m n x y = k
    · have hin := in_of hr hx0 hx1 hy0 hy1 c2
      have hq := pos_nonneg hin
      rw [inAt_iff] at hin
      have : posI a b m n k x y < p := by
        rcases hp with hp | hp | hp
        · omega
        · unfold wideI at hp; omega
        · unfold highI at hp; omega
      rw [if_pos (.inr ⟨c2, this⟩), if_pos (.inl (by omega))]
    · rw [if_neg (by omega), if_neg]
      rintro (h1 | ⟨h1, h2⟩)
      · omega
      · have hk1 : ofI a b m n x y = ((k + 1 : Nat) : Int) := by omega
        have := (pos_nonneg (in_of hr hx0 hx1 hy0 hy1 hk1)).1
        omega
theorem step {a b m n : Int} (hr : rightI a b m n = true) {k : Nat} (hk : k < (m * n).toNat) {i j : Int} (hi0 : 0 ≤ i) (hi1 : i < wideI a m k) (hj0 : 0 ≤ j) (hj1 : j < highI b m n k) {zs : List Int} (h : State a b m n k (j * wideI a m k + i) zs) :
    (0 ≤ fromI a m (colI m k) + i ∧ fromI a m (colI m k) + i < a ∧ 0 ≤ fromI b n (rowI m n k) + j ∧ fromI b n (rowI m n k) + j < b) ∧
    ofI a b m n (fromI a m (colI m k) + i) (fromI b n (rowI m n k) + j) = k ∧
    zs[((fromI b n (rowI m n k) + j) * a + (fromI a m (colI m k) + i)).toNat]? = some 0 ∧
    State a b m n k (j * wideI a m k + i + 1) (zs.set ((fromI b n (rowI m n k) + j) * a + (fromI a m (colI m k) + i)).toNat 1) := by
  obtain ⟨a0, a1, b0, b1, m0, m1, n0, n1⟩ := rightI_yes hr
  have hcol := col_bd m0 m1 k
  have hrow := row_bd (m := m) n0 n1 k
  have c1 : colI m k + 1 ≤ m := by unfold colI; have := Nat.mod_lt k (by omega : 0 < m.toNat); omega
  have c2 : rowI m n k + 1 ≤ n := by unfold rowI; have := Nat.mod_lt (k / m.toNat) (by omega : 0 < n.toNat); omega
  have f1 := from_le (s := a) (p := m) (by omega) m0 c1
  have f2 := from_le (s := b) (p := n) (by omega) n0 c2
  have g1 := from_bd (s := a) (p := m) (by omega) a1 m0 hcol.1 (by omega)
  have g2 := from_bd (s := b) (p := n) (by omega) b1 n0 hrow.1 (by omega)
  rw [from_top m0] at f1
  rw [from_top n0] at f2
  have hin : inAt a b m n (fromI a m (colI m k) + i) (fromI b n (rowI m n k) + j) k = true := by
    rw [inAt_iff]; unfold wideI at hi1; unfold highI at hj1; omega
  have ho := of_eq hr hin hk
  have hb : 0 ≤ fromI a m (colI m k) + i ∧ fromI a m (colI m k) + i < a ∧ 0 ≤ fromI b n (rowI m n k) + j ∧ fromI b n (rowI m n k) + j < b := by
    unfold wideI at hi1; unfold highI at hj1; omega
  obtain ⟨x0, x1, y0, y1⟩ := hb
  have hpos : posI a b m n k (fromI a m (colI m k) + i) (fromI b n (rowI m n k) + j) = j * wideI a m k + i := by
    unfold posI
    congr 1
    · congr 1; omega
    · omega
  refine ⟨⟨x0, x1, y0, y1⟩, ho, ?_, by rw [List.length_set]; exact h.1, fun x y hx0 hx1 hy0 hy1 => ?_⟩
  · rw [h.2 _ _ x0 x1 y0 y1]
    unfold valI
    rw [if_neg]
    rintro (h1 | ⟨h1, h2⟩) <;> omega
  · have l1 := at_lt x0 x1 y0 y1
    have l2 := at_lt hx0 hx1 hy0 hy1
    rw [List.getElem?_set]
    by_cases c : ((fromI b n (rowI m n k) + j) * a + (fromI a m (colI m k) + i)).toNat = (y * a + x).toNat
    · rw [if_pos c, if_pos (by rw [h.1]; omega)]
      obtain ⟨ex, ey⟩ := row_inj x0 x1 hx0 hx1 (show (fromI b n (rowI m n k) + j) * a + (fromI a m (colI m k) + i) = y * a + x by omega)
      rw [← ex, ← ey]
      unfold valI
      rw [if_pos (.inr ⟨ho, by omega⟩)]
    · rw [if_neg c, h.2 x y hx0 hx1 hy0 hy1]
      congr 1
      unfold valI
      have hne : ofI a b m n x y = k → posI a b m n k x y ≠ j * wideI a m k + i := by
        intro h1 h2
        have hin2 := in_of hr hx0 hx1 hy0 hy1 h1
        rw [inAt_iff] at hin2
        unfold posI at h2
        obtain ⟨ex, ey⟩ := row_inj (by omega) (by unfold wideI; omega) hi0 hi1 h2
        apply c
        have e1 : x = fromI a m (colI m k) + i := by omega
        have e2 : y = fromI b n (rowI m n k) + j := by omega
        rw [e1, e2]
      by_cases d : ofI a b m n x y < k ∨ ofI a b m n x y = k ∧ posI a b m n k x y < j * wideI a m k + i
      · rw [if_pos d, if_pos (d.imp id (fun d => ⟨d.1, by omega⟩))]
      · rw [if_neg d, if_neg]
        rintro (h1 | ⟨h1, h2⟩)
        · exact d (.inl h1)
        · exact d (.inr ⟨h1, by have := hne h1; omega⟩)
end Go.Proofs.Ytekdhagmmflcnaa.splitCovers
