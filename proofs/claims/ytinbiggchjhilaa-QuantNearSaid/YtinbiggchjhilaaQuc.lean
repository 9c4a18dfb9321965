/- Plain laws on numbers made coarse and back. -/
import Derived.Test.YtinbiggchjhilaaTurnsW
namespace Go.Proofs.Ytinbiggchjhilaa
open Go.RowKit

theorem off_tab : ∀ i : Fin 61, ∀ b : Bool, 1 ≤ offI i.val b ∧ offI i.val b + 3 ≤ facI i.val ∧ 4 ≤ facI i.val := by decide +kernel
theorem fac_next : ∀ i : Fin 60, facI i.val ≤ facI ((i.val : Int) + 1) := by decide +kernel
theorem off_bds {q : Int} (b : Bool) (h0 : 0 ≤ q) (h1 : q ≤ 60) : 1 ≤ offI q b ∧ offI q b + 3 ≤ facI q ∧ 4 ≤ facI q := by
  have := off_tab ⟨q.toNat, by omega⟩ b
  have e : ((q.toNat : Nat) : Int) = q := by omega
  simpa only [e] using this
theorem fac_mono {q : Int} (h0 : 0 ≤ q) (h1 : q ≤ 59) : facI q ≤ facI (q + 1) := by
  have := fac_next ⟨q.toNat, by omega⟩
  have e : ((q.toNat : Nat) : Int) = q := by omega
  simpa only [e] using this

theorem sizeI_even (v : Int) : sizeI (-v) = sizeI v := by unfold sizeI; split <;> split <;> (try split) <;> (try split) <;> omega
theorem thereI_odd (v q : Int) : thereI (-v) q = - thereI v q := by
  unfold thereI
  split
  · rfl
  · rw [sizeI_even]
    by_cases h0 : v = 0
    · subst h0; simp [sizeI_zero, signI]
    · unfold signI
      by_cases h : v < 0
      · rw [if_neg (by omega), if_pos h]; omega
      · rw [if_pos (by omega), if_neg h]
theorem backI_odd (c q : Int) (b : Bool) : backI (-c) q b = - backI c q b := by
  by_cases h0 : c = 0
  · subst h0; rw [backI_zero (.inr (by simp)), backI_zero (.inr rfl)]; rfl
  · by_cases hf : facI q = 0
    · rw [backI_zero (.inl hf), backI_zero (.inl hf)]; rfl
    · rw [← backI_of hf h0, ← backI_of hf (by omega), sizeI_even]
      unfold signI
      by_cases h : c < 0
      · rw [if_neg (by omega), if_pos h]; omega
      · rw [if_pos (by omega), if_neg h]

/-- Of a number that is not below nought: what goes there, by the quotient alone. -/
theorem there_pos {v q : Int} (h0 : 0 ≤ v) (h1 : v ≤ 2199023255550) (hq0 : 0 ≤ q) (hq1 : q ≤ 60) : thereI v q = 4 * v / facI q := by
  have := off_bds true hq0 hq1
  rw [← thereI_of (by omega), sizeI_pos h0 h1]
  unfold signI; rw [if_neg (by omega)]
/-- The quotient's bounds. -/
theorem quot_bds {v f : Int} (h0 : 0 ≤ v) (hf : 4 ≤ f) : 0 ≤ 4 * v / f ∧ 4 * v / f ≤ v ∧ 4 * v / f * f ≤ 4 * v ∧ 4 * v < 4 * v / f * f + f := by
  refine ⟨Int.ediv_nonneg (by omega) (by omega), ?_, Int.ediv_mul_le _ (by omega), ?_⟩
  · refine Int.ediv_le_of_le_mul (by omega) ?_
    have := Int.mul_le_mul_of_nonneg_left hf h0
    omega
  · have := Int.lt_ediv_add_one_mul_self (4 * v) (by omega : 0 < f)
    rw [Int.add_mul, Int.one_mul] at this; exact this
/-- Back of a number above nought. -/
theorem back_pos {c q : Int} {b : Bool} (h0 : 0 < c) (h1 : c ≤ 2199023255550) (hf : ¬ facI q = 0) : backI c q b = minV ((c * facI q + offI q b + 2) / 4) := by
  rw [← backI_of hf (by omega), sizeI_pos (by omega) h1]
  unfold signI; rw [if_neg (by omega)]
theorem back_nought {q : Int} {b : Bool} : backI 0 q b = 0 := backI_zero (.inr rfl)


/-- There and back, of a number that is not below nought: where it comes to. -/
theorem tb_pos {v q : Int} {b : Bool} (h0 : 0 ≤ v) (h1 : v ≤ 2199023255550) (hq0 : 0 ≤ q) (hq1 : q ≤ 60) :
    (thereI v q = 0 ∧ backI (thereI v q) q b = 0 ∧ 4 * v < facI q) ∨
    (0 < thereI v q ∧ thereI v q ≤ v ∧ thereI v q * facI q ≤ 4 * v ∧ 4 * v < thereI v q * facI q + facI q ∧ backI (thereI v q) q b = (thereI v q * facI q + offI q b + 2) / 4) := by
  obtain ⟨o1, o2, o3⟩ := off_bds b hq0 hq1
  have hf := facI_bd q
  rw [there_pos h0 h1 hq0 hq1]
  obtain ⟨b0, b1, b2, b3⟩ := quot_bds h0 o3
  by_cases hz : 4 * v / facI q = 0
  · rw [hz] at b3 ⊢
    exact .inl ⟨rfl, back_nought, by omega⟩
  · refine .inr ⟨by omega, b1, b2, b3, ?_⟩
    rw [back_pos (by omega) (by omega) (by omega)]
    generalize 4 * v / facI q * facI q = X at b2 b3 ⊢
    unfold minV; rw [if_neg (by omega)]
theorem mul_mono {a b f : Int} (h : a ≤ b) (hf : 0 ≤ f) : a * f ≤ b * f := Int.mul_le_mul_of_nonneg_right h hf

/-- Near: of a number that is not below nought. -/
theorem near_pos {v q : Int} {b : Bool} (h0 : 0 ≤ v) (h1 : v ≤ 2199023255550) (hq0 : 0 ≤ q) (hq1 : q ≤ 60) :
    0 ≤ backI (thereI v q) q b ∧ backI (thereI v q) q b - v ≤ facI q / 4 + 1 ∧ v - backI (thereI v q) q b ≤ facI q / 4 + 1 ∧ (q = 0 → backI (thereI v q) q b = v) := by
  obtain ⟨o1, o2, o3⟩ := off_bds b hq0 hq1
  have e0 : facI 0 = 4 := by decide
  have e1 : offI 0 b = 1 := by cases b <;> decide
  rcases tb_pos (b := b) h0 h1 hq0 hq1 with ⟨_, hb, hv⟩ | ⟨t0, t1, t2, t3, hb⟩
  · rw [hb]
    refine ⟨by omega, by omega, by omega, fun h => ?_⟩
    subst h; omega
  · rw [hb]
    have hX : 0 ≤ thereI v q * facI q := Int.mul_nonneg (by omega) (by omega)
    generalize thereI v q * facI q = X at hX t2 t3 ⊢
    refine ⟨by omega, by omega, by omega, fun h => ?_⟩
    subst h; omega
theorem near_all {v q : Int} {b : Bool} (h0 : -2199023255550 ≤ v) (h1 : v ≤ 2199023255550) (hq0 : 0 ≤ q) (hq1 : q ≤ 60) :
    (0 ≤ v → 0 ≤ backI (thereI v q) q b) ∧ (v ≤ 0 → backI (thereI v q) q b ≤ 0) ∧ backI (thereI v q) q b - v ≤ facI q / 4 + 1 ∧ v - backI (thereI v q) q b ≤ facI q / 4 + 1 ∧ (q = 0 → backI (thereI v q) q b = v) := by
  by_cases h : 0 ≤ v
  · obtain ⟨a, c, d, e⟩ := near_pos (b := b) h h1 hq0 hq1
    refine ⟨fun _ => a, fun hv => ?_, c, d, e⟩
    obtain rfl : v = 0 := by omega
    have : thereI 0 q = 0 := by rw [there_pos (by omega) (by omega) hq0 hq1]; simp
    rw [this, back_nought]; omega
  · obtain ⟨a, c, d, e⟩ := near_pos (v := -v) (b := b) (by omega) (by omega) hq0 hq1
    rw [thereI_odd, backI_odd] at a c d e
    exact ⟨fun hv => by omega, fun _ => by omega, by omega, by omega, fun h => by have := e h; omega⟩
/-- What goes there, and what comes back, keeps the order. -/
theorem there_mono_pos {v x q : Int} (h0 : 0 ≤ v) (h : v ≤ x) (h1 : x ≤ 2199023255550) (hq0 : 0 ≤ q) (hq1 : q ≤ 60) : thereI v q ≤ thereI x q ∧ 0 ≤ thereI v q := by
  obtain ⟨o1, o2, o3⟩ := off_bds true hq0 hq1
  rw [there_pos h0 (by omega) hq0 hq1, there_pos (by omega) h1 hq0 hq1]
  exact ⟨Int.ediv_le_ediv (by omega) (by omega), Int.ediv_nonneg (by omega) (by omega)⟩
theorem tb_mono_pos {v x q : Int} {b : Bool} (h0 : 0 ≤ v) (h : v ≤ x) (h1 : x ≤ 2199023255550) (hq0 : 0 ≤ q) (hq1 : q ≤ 60) : backI (thereI v q) q b ≤ backI (thereI x q) q b := by
  obtain ⟨o1, o2, o3⟩ := off_bds b hq0 hq1
  have hm := (there_mono_pos h0 h h1 hq0 hq1).1
  have hx := near_pos (b := b) (v := x) (by omega) h1 hq0 hq1
  rcases tb_pos (b := b) h0 (by omega : v ≤ 2199023255550) hq0 hq1 with ⟨_, hb, hv⟩ | ⟨t0, t1, t2, t3, hb⟩
  · rw [hb]; exact hx.1
  · rcases tb_pos (b := b) (by omega : 0 ≤ x) h1 hq0 hq1 with ⟨hz, _⟩ | ⟨s0, s1, s2, s3, hb'⟩
    · omega
    · rw [hb, hb']
      have := mul_mono (f := facI q) hm (by omega)
      generalize thereI v q * facI q = X at *
      generalize thereI x q * facI q = Y at *
      omega
theorem mono_all {v x q : Int} {b : Bool} (h0 : -2199023255550 ≤ v) (h : v ≤ x) (h1 : x ≤ 2199023255550) (hq0 : 0 ≤ q) (hq1 : q ≤ 60) :
    thereI v q ≤ thereI x q ∧ backI (thereI v q) q b ≤ backI (thereI x q) q b := by
  by_cases hv : 0 ≤ v
  · exact ⟨(there_mono_pos hv h h1 hq0 hq1).1, tb_mono_pos hv h h1 hq0 hq1⟩
  · by_cases hx : 0 ≤ x
    · have a := (near_all (b := b) h0 (by omega : v ≤ 2199023255550) hq0 hq1).2.1 (by omega)
      have c := (near_all (b := b) (by omega : -2199023255550 ≤ x) h1 hq0 hq1).1 hx
      have d := (there_mono_pos (v := -v) (x := -v) (by omega) (by omega) (by omega) hq0 hq1).2
      have e := (there_mono_pos (v := x) (x := x) (by omega) (by omega) (by omega) hq0 hq1).2
      rw [thereI_odd] at d
      exact ⟨by omega, by omega⟩
    · have d := (there_mono_pos (v := -x) (x := -v) (by omega) (by omega) (by omega) hq0 hq1).1
      have e := tb_mono_pos (b := b) (v := -x) (x := -v) (by omega) (by omega) (by omega) hq0 hq1
      rw [thereI_odd, thereI_odd] at d
      rw [thereI_odd, thereI_odd, backI_odd, backI_odd] at e
      exact ⟨by omega, by omega⟩

/-- What came back goes there as it was. -/
theorem round_pos {v q : Int} {b : Bool} (h0 : 0 ≤ v) (h1 : v ≤ 1099511627776) (hq0 : 0 ≤ q) (hq1 : q ≤ 60) : thereI (backI (thereI v q) q b) q = thereI v q := by
  obtain ⟨o1, o2, o3⟩ := off_bds b hq0 hq1
  have hf := facI_bd q
  rcases tb_pos (b := b) h0 (by omega : v ≤ 2199023255550) hq0 hq1 with ⟨hz, hb, hv⟩ | ⟨t0, t1, t2, t3, hb⟩
  · rw [hb, hz]; rw [there_pos (by omega) (by omega) hq0 hq1]; simp
  · rw [hb]
    have hX : 0 ≤ thereI v q * facI q := Int.mul_nonneg (by omega) (by omega)
    rw [there_pos (by omega) (by omega) hq0 hq1]
    refine Int.le_antisymm ?_ ?_
    · refine Int.le_of_lt_add_one (Int.ediv_lt_of_lt_mul (by omega) ?_)
      rw [Int.add_mul, Int.one_mul]
      generalize thereI v q * facI q = X at *
      omega
    · refine Int.le_ediv_of_mul_le (by omega) ?_
      generalize thereI v q * facI q = X at *
      omega
theorem round_all {v q : Int} {b : Bool} (h0 : -1099511627776 ≤ v) (h1 : v ≤ 1099511627776) (hq0 : 0 ≤ q) (hq1 : q ≤ 60) : thereI (backI (thereI v q) q b) q = thereI v q := by
  by_cases h : 0 ≤ v
  · exact round_pos h h1 hq0 hq1
  · have := round_pos (v := -v) (b := b) (by omega) (by omega) hq0 hq1
    rw [thereI_odd, backI_odd, thereI_odd] at this
    omega
/-- A greater quantiser makes no greater number. -/
theorem coarser_pos {v q : Int} (h0 : 0 ≤ v) (h1 : v ≤ 1099511627776) (hq0 : 0 ≤ q) (hq1 : q ≤ 59) : 0 ≤ thereI v (q + 1) ∧ thereI v (q + 1) ≤ thereI v q := by
  have hm := fac_mono hq0 hq1
  obtain ⟨o1, o2, o3⟩ := off_bds true hq0 (by omega : q ≤ 60)
  rw [there_pos h0 (by omega) hq0 (by omega), there_pos h0 (by omega) (by omega : 0 ≤ q + 1) (by omega)]
  obtain ⟨b0, b1, b2, b3⟩ := quot_bds (f := facI (q + 1)) h0 (by omega)
  refine ⟨b0, Int.le_ediv_of_mul_le (by omega) ?_⟩
  exact Int.le_trans (Int.mul_le_mul_of_nonneg_left hm b0) b2
theorem coarser_all {v q : Int} (h0 : -1099511627776 ≤ v) (h1 : v ≤ 1099511627776) (hq0 : 0 ≤ q) (hq1 : q ≤ 59) :
    (0 ≤ thereI v (q + 1) ∧ thereI v (q + 1) ≤ thereI v q) ∨ (thereI v (q + 1) ≤ 0 ∧ thereI v q ≤ thereI v (q + 1)) := by
  by_cases h : 0 ≤ v
  · exact .inl (coarser_pos h h1 hq0 hq1)
  · have := coarser_pos (v := -v) (by omega) (by omega) hq0 hq1
    rw [thereI_odd, thereI_odd] at this
    exact .inr (by omega)
theorem there_bd {v q : Int} (h0 : -2199023255550 ≤ v) (h1 : v ≤ 2199023255550) (hq0 : 0 ≤ q) (hq1 : q ≤ 60) : -2199023255550 ≤ thereI v q ∧ thereI v q ≤ 2199023255550 := by
  obtain ⟨o1, o2, o3⟩ := off_bds true hq0 hq1
  by_cases h : 0 ≤ v
  · rw [there_pos h h1 hq0 hq1]
    obtain ⟨b0, b1, b2, b3⟩ := quot_bds h o3
    omega
  · have e := there_pos (v := -v) (by omega) (by omega) hq0 hq1
    rw [thereI_odd] at e
    obtain ⟨b0, b1, b2, b3⟩ := quot_bds (v := -v) (by omega) o3
    omega
end Go.Proofs.Ytinbiggchjhilaa
