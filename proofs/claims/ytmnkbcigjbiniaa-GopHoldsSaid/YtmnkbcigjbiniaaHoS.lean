/- GopHolds: one shot more, plainly. -/
import Derived.Test.YtmnkbcigjbiniaaHoM
namespace Go.Proofs.Ytmnkbcigjbiniaa.gopHolds
open Go.RowKit

def keptL (n b : Int) (k : Nat) : List Int := if k = 0 then [((ancA n b 0 : Nat) : Int)] else [((ancA n b (k - 1) : Nat) : Int), ((ancA n b k : Nat) : Int)]
/-- t shots have come: f says which numbers, L which are kept. -/
def St (n p b : Int) (t : Nat) (f : Nat → Bool) (L : List Int) : Prop :=
  (t = 0 ∧ (∀ m, f m = false) ∧ L = []) ∨ ∃ k j, k < cntA n p b ∧ j ≤ gapN n b k ∧ t = tk n p b k + 1 + j ∧ (∀ m, f m = cameB n b k j m) ∧ L = keptL n b k
/-- What the next shot does. -/
structure Next (n p b : Int) (t : Nat) (f : Nat → Bool) (L : List Int) (sh : Sh) (L1 L' : List Int) : Prop where
  get : (shots n p b)[t]? = some sh
  num0 : 0 ≤ sh.num
  num1 : sh.num < n
  fresh : f sh.num.toNat = false
  st : St n p b (t + 1) (fun m => f m || decide (m = sh.num.toNat)) L'
  refs : ∀ r ∈ sh.refs, r ∈ L ∧ 0 ≤ r ∧ r ≤ 1000
  ret : (sh.ret = 0 ∧ L1 = L) ∨ (0 < sh.ret ∧ sh.ret ≤ 1000 ∧ sh.num - sh.ret ∈ L ∧ 0 ≤ sh.num - sh.ret ∧ L1 = L.erase (sh.num - sh.ret))
  kept : (sh.kept = true ∧ sh.num ∉ L1 ∧ L' = L1 ++ [sh.num]) ∨ (sh.kept = false ∧ L' = L1)
  few : L'.length ≤ 2
  nodup : L.Nodup
  rlen : sh.refs.length ≤ 2
theorem next_anchor {n p b : Int} (hok : okA n p b = true) {k : Nat} (hk : k + 1 < cntA n p b) {f : Nat → Bool} (hf : ∀ m, f m = cameB n b k (gapN n b k) m) :
    ∃ sh L1 L', Next n p b (tk n p b (k + 1)) f (keptL n b k) sh L1 L' := by
  have h1 := ancA_succ n b k
  have hb1 := ancA_bd hok hk
  have hb0 := ancA_bd hok (show k < cntA n p b by omega)
  have hst : ∀ m, (f m || decide (m = ((anchorSh n p b (k + 1)).num).toNat)) = cameB n b (k + 1) 0 m := fun m => by
    rw [hf m, came_full, came_anchor]
    show (decide (m ≤ ancA n b k) || decide (m = (((ancA n b (k + 1) : Nat) : Int)).toNat)) = _
    rw [Int.toNat_natCast]
  have hfr : f ((anchorSh n p b (k + 1)).num).toNat = false := by
    rw [hf, came_full]
    show decide ((((ancA n b (k + 1) : Nat) : Int)).toNat ≤ ancA n b k) = false
    rw [Int.toNat_natCast]
    exact decide_eq_false (by omega)
  have hnum : (anchorSh n p b (k + 1)).num = ((ancA n b (k + 1) : Nat) : Int) := rfl
  have hrl : (anchorSh n p b (k + 1)).refs.length ≤ 2 := by
    unfold anchorSh
    simp only
    split <;> simp
  have hrefs : ∀ r ∈ (anchorSh n p b (k + 1)).refs, r = ((ancA n b k : Nat) : Int) := fun r hr => by
    unfold anchorSh at hr
    simp only at hr
    split at hr
    · simp at hr
    · simpa using hr
  rcases Nat.eq_zero_or_pos k with h0 | h0
  · subst h0
    refine ⟨_, keptL n b 0, _, get_anchor hk, by rw [hnum]; omega, by rw [hnum]; omega, hfr, .inr ⟨1, 0, hk, Nat.zero_le _, rfl, hst, rfl⟩, fun r hr => ?_, .inl ⟨rfl, rfl⟩, .inl ⟨rfl, ?_, ?_⟩, by simp [keptL], by simp [keptL], hrl⟩
    · rw [hrefs r hr]
      exact ⟨by simp [keptL], by omega, by omega⟩
    · rw [hnum]
      simp only [keptL, if_true, List.mem_singleton]
      omega
    · rw [hnum]; rfl
  · obtain ⟨k', rfl⟩ : ∃ k', k = k' + 1 := ⟨k - 1, by omega⟩
    have h2 := ancA_succ n b k'
    have hret : (anchorSh n p b (k' + 1 + 1)).ret = ((ancA n b (k' + 1 + 1) : Nat) : Int) - ((ancA n b k' : Nat) : Int) := by
      unfold anchorSh
      simp only
      rw [if_pos (by omega)]
      rfl
    have hkl : keptL n b (k' + 1) = [((ancA n b k' : Nat) : Int), ((ancA n b (k' + 1) : Nat) : Int)] := rfl
    have hdiff : (anchorSh n p b (k' + 1 + 1)).num - (anchorSh n p b (k' + 1 + 1)).ret = ((ancA n b k' : Nat) : Int) := by rw [hret, hnum]; omega
    have her : (keptL n b (k' + 1)).erase ((anchorSh n p b (k' + 1 + 1)).num - (anchorSh n p b (k' + 1 + 1)).ret) = [((ancA n b (k' + 1) : Nat) : Int)] := by
      rw [hdiff, hkl]
      simp
    refine ⟨_, _, _, get_anchor hk, by rw [hnum]; omega, by rw [hnum]; omega, hfr, .inr ⟨k' + 1 + 1, 0, hk, Nat.zero_le _, rfl, hst, rfl⟩, fun r hr => ?_, .inr ⟨by rw [hret]; omega, by rw [hret]; omega, by rw [hdiff, hkl]; simp, by rw [hdiff]; omega, rfl⟩, .inl ⟨rfl, ?_, ?_⟩, by simp [keptL], ?_, hrl⟩
    · rw [hrefs r hr, hkl]
      exact ⟨by simp, by omega, by omega⟩
    · rw [her, hnum]
      simp only [List.mem_singleton]
      omega
    · rw [her, hnum]; rfl
    · rw [hkl]
      simp only [List.nodup_cons, List.mem_singleton, List.not_mem_nil, not_false_iff, List.nodup_nil, and_true]
      omega
theorem next_btw {n p b : Int} (hok : okA n p b = true) {k j : Nat} (hk : k < cntA n p b) (hj : j < gapN n b k) {f : Nat → Bool} (hf : ∀ m, f m = cameB n b k j m) :
    ∃ sh L1 L', Next n p b (tk n p b k + 1 + j) f (keptL n b k) sh L1 L' := by
  have h0 : 0 < k := by
    rcases Nat.eq_zero_or_pos k with h0 | h0
    · subst h0; unfold gapN at hj; simp at hj
    · exact h0
  have hg : ancA n b (k - 1) + 1 + j < ancA n b k := by unfold gapN at hj; rw [if_neg (by omega)] at hj; omega
  have hb1 := ancA_bd hok hk
  have hkl : keptL n b k = [((ancA n b (k - 1) : Nat) : Int), ((ancA n b k : Nat) : Int)] := by unfold keptL; rw [if_neg (by omega)]
  have hnum : (btwSh n b k j).num = ((ancA n b (k - 1) + 1 + j : Nat) : Int) := rfl
  refine ⟨_, _, _, get_btw hk hj, by rw [hnum]; omega, by rw [hnum]; omega, ?_, .inr ⟨k, j + 1, hk, hj, by omega, fun m => ?_, rfl⟩, fun r hr => ?_, .inl ⟨rfl, rfl⟩, .inr ⟨rfl, rfl⟩, by rw [hkl]; simp, ?_, by simp [btwSh]⟩
  · rw [hnum, Int.toNat_natCast, hf]
    unfold cameB
    simp only [Bool.or_eq_false_iff, Bool.and_eq_false_iff, decide_eq_false_iff_not]
    omega
  · show (f m || decide (m = (btwSh n b k j).num.toNat)) = _
    rw [came_next h0, hf, hnum, Int.toNat_natCast]
  · unfold btwSh at hr
    simp only [List.mem_cons, List.not_mem_nil, or_false] at hr
    rw [hkl]
    rcases hr with rfl | rfl
    · exact ⟨by simp, by omega, by omega⟩
    · exact ⟨by simp, by omega, by omega⟩
  · rw [hkl]
    simp only [List.nodup_cons, List.mem_singleton, List.not_mem_nil, not_false_iff, List.nodup_nil, and_true]
    omega
theorem next_any {n p b : Int} (hok : okA n p b = true) {t : Nat} {f : Nat → Bool} {L : List Int} (h : St n p b t f L) (ht : t < (shots n p b).length) : ∃ sh L1 L', Next n p b t f L sh L1 L' := by
  rcases h with ⟨rfl, hf, rfl⟩ | ⟨k, j, hk, hj, rfl, hf, rfl⟩
  · have hc : 0 < cntA n p b := by
      rcases Nat.eq_zero_or_pos (cntA n p b) with h0 | h0
      · rw [← tk_all, h0, tk_zero] at ht; omega
      · exact h0
    have hb1 := ancA_bd hok hc
    have e0 : ancA n b 0 = 0 := anc_zero _ _
    have hnum : (anchorSh n p b 0).num = 0 := by show ((ancA n b 0 : Nat) : Int) = 0; rw [e0]; rfl
    refine ⟨_, [], _, get_anchor (k := 0) hc, by rw [hnum]; omega, by rw [hnum]; omega, hf _, .inr ⟨0, 0, hc, Nat.zero_le _, rfl, fun m => ?_, rfl⟩, fun r hr => ?_, .inl ⟨rfl, rfl⟩, .inl ⟨rfl, by simp, ?_⟩, by simp [keptL], by simp, by simp [anchorSh, ownB]⟩
    · show (f m || decide (m = (anchorSh n p b 0).num.toNat)) = _
      rw [hf m, hnum]
      simp [cameB]
    · simp [anchorSh, ownB] at hr
    · rw [hnum]; unfold keptL; rw [e0]; rfl
  · by_cases c : j < gapN n b k
    · exact next_btw hok hk c hf
    · obtain rfl : j = gapN n b k := by omega
      rw [← tk_next] at ht ⊢
      have hk2 : k + 1 < cntA n p b := by
        apply Classical.byContradiction
        intro hc
        obtain e : k + 1 = cntA n p b := by omega
        rw [e, tk_all] at ht
        omega
      exact next_anchor hok hk2 hf
end Go.Proofs.Ytmnkbcigjbiniaa.gopHolds
