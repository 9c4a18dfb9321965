/- Units that are joined are split; a stream cut off, or with more behind it, isn't one: plainly. -/
import Derived.Test.YtbekkdlgibijdaaUnK
import Derived.Test.YtbekkdlgibijdaaUnN
import Derived.Test.YtbekkdlgibijdaaCuK
namespace Go.Proofs.Ytbekkdlgibijdaa

/-! The head of a unit. -/
theorem unitB_mark (cd nx pv : Nat) : nextB (unitB cd nx pv) 0 4 = markB := rfl
theorem unitB_code {cd : Nat} (h : cd < 256) (nx pv : Nat) : hCode (unitB cd nx pv) = cd := by
  show numB [UInt8.ofNat cd] = cd
  have := numB_byte cd
  rwa [Nat.mod_eq_of_lt h] at this
theorem unitB_next {nx : Nat} (cd : Nat) (h : nx < 4294967296) (pv : Nat) : hNext (unitB cd nx pv) = nx := by
  show numB (spellB nx) = nx
  exact numB_spell h
theorem unitB_prev {pv : Nat} (cd nx : Nat) (h : pv < 4294967296) : hPrev (unitB cd nx pv) = pv := by
  show numB (spellB pv) = pv
  exact numB_spell h
theorem nextB_behind (p q : List UInt8) (m : Nat) : nextB (p ++ q) p.length m = q.take m := by
  simp [nextB]
theorem nextB_behind2 (p q : List UInt8) (i m : Nat) : nextB (p ++ q) (p.length + i) m = nextB q i m := by
  unfold nextB
  rw [← List.drop_drop, List.drop_left']
  rfl

/-! What is joined, taken apart. -/
theorem acc_parts (U : Nat → Int × List UInt8) {k n : Nat} (h : k ≤ n) : ∃ r, (accU U n).1 = (accU U k).1 ++ r := by
  induction n with
  | zero => obtain rfl : k = 0 := by omega
            exact ⟨[], by simp⟩
  | succ n ih =>
    by_cases hk : k = n + 1
    · subst hk; exact ⟨[], by simp⟩
    · obtain ⟨r, hr⟩ := ih (by omega)
      refine ⟨(r ++ unitB (U n).1.toNat (13 + (U n).2.length) (accU U n).2) ++ (U n).2, ?_⟩
      show ((accU U n).1 ++ unitB (U n).1.toNat (13 + (U n).2.length) (accU U n).2) ++ (U n).2 = _
      rw [hr]; simp
theorem out_parts (U : Nat → Int × List UInt8) {k n : Nat} (h : k < n) : ∃ r, outJ U n = (accU U k).1 ++ (unitB (U k).1.toNat (13 + (U k).2.length) (accU U k).2 ++ ((U k).2 ++ r)) := by
  obtain ⟨r, hr⟩ := acc_parts U (show k + 1 ≤ n from h)
  refine ⟨r ++ unitB 16 0 (accU U n).2, ?_⟩
  unfold outJ
  rw [hr]
  show (((accU U k).1 ++ unitB (U k).1.toNat (13 + (U k).2.length) (accU U k).2) ++ (U k).2) ++ r ++ _ = _
  simp
theorem take13 {cd nx pv : Nat} {r : List UInt8} : (unitB cd nx pv ++ r).take 13 = unitB cd nx pv := by
  rw [List.take_append_of_le_length (by rw [unitB_len]; omega), List.take_of_length_le (by rw [unitB_len]; omega)]
theorem out_head (U : Nat → Int × List UInt8) {k n : Nat} (h : k < n) : nextB (outJ U n) (accU U k).1.length 13 = unitB (U k).1.toNat (13 + (U k).2.length) (accU U k).2 := by
  obtain ⟨r, hr⟩ := out_parts U h
  rw [hr, nextB_behind, take13]
theorem out_data (U : Nat → Int × List UInt8) {k n : Nat} (h : k < n) : nextB (outJ U n) ((accU U k).1.length + 13) (U k).2.length = (U k).2 := by
  obtain ⟨r, hr⟩ := out_parts U h
  rw [hr, nextB_behind2]
  have := nextB_behind (unitB (U k).1.toNat (13 + (U k).2.length) (accU U k).2) ((U k).2 ++ r) (U k).2.length
  rw [unitB_len] at this
  rw [this, List.take_left']
  rfl
theorem out_last (U : Nat → Int × List UInt8) (n : Nat) : nextB (outJ U n) (accU U n).1.length 13 = unitB 16 0 (accU U n).2 := by
  unfold outJ
  rw [nextB_behind]
  exact List.take_of_length_le (by rw [unitB_len]; omega)
theorem out_len (U : Nat → Int × List UInt8) (n : Nat) : (outJ U n).length = (accU U n).1.length + 13 := by
  unfold outJ
  rw [List.length_append, unitB_len]
theorem acc_up (U : Nat → Int × List UInt8) {k n : Nat} (h : k ≤ n) : (accU U k).1.length ≤ (accU U n).1.length := by
  obtain ⟨r, hr⟩ := acc_parts U h
  rw [hr, List.length_append]; omega

/-! Where the units begin. -/
section
variable {U : Nat → Int × List UInt8} {n : Nat} (hok : ∀ k, k < n → okJ U k)
include hok
theorem out_pos : ∀ k, k ≤ n → posU (outJ U n) k = ((accU U k).1.length, ((accU U k).2 : Int)) := by
  intro k
  induction k with
  | zero => intro _; rfl
  | succ k ih =>
    intro hk
    have hp := ih (by omega)
    obtain ⟨h1, h2, h3⟩ := hok k hk
    have hh : headU (outJ U n) k = unitB (U k).1.toNat (13 + (U k).2.length) (accU U k).2 := by
      unfold headU
      rw [hp]
      exact out_head U hk
    rw [pos_succ, hh, hp]
    have hn : unitN (unitB (U k).1.toNat (13 + (U k).2.length) (accU U k).2) = 13 + (U k).2.length := by
      unfold unitN
      rw [unitB_next _ (by omega)]
      omega
    rw [hn, acc_len]
    show ((accU U k).1.length + (13 + (U k).2.length), _) = _
    rw [Nat.add_assoc]
    rfl
theorem out_headU {k : Nat} (hk : k < n) : headU (outJ U n) k = unitB (U k).1.toNat (13 + (U k).2.length) (accU U k).2 := by
  unfold headU
  rw [out_pos hok k (by omega)]
  exact out_head U hk
theorem out_headL : headU (outJ U n) n = unitB 16 0 (accU U n).2 := by
  unfold headU
  rw [out_pos hok n (Nat.le_refl _)]
  exact out_last U n
theorem out_size {k : Nat} (hk : k < n) : unitN (headU (outJ U n) k) = 13 + (U k).2.length := by
  obtain ⟨_, _, h3⟩ := hok k hk
  rw [out_headU hok hk]
  unfold unitN
  rw [unitB_next _ (by omega)]
  omega
theorem out_sizeL : unitN (headU (outJ U n) n) = 13 := by
  rw [out_headL hok]
  unfold unitN
  rw [unitB_next _ (by omega)]
  rfl
theorem out_code {k : Nat} (hk : k < n) : hCode (headU (outJ U n) k) = (U k).1.toNat := by
  obtain ⟨h1, _, _⟩ := hok k hk
  have := known_lt h1
  rw [out_headU hok hk]
  exact unitB_code (by omega) _ _
theorem out_codeL : hCode (headU (outJ U n) n) = 16 := by
  rw [out_headL hok]
  exact unitB_code (by decide) _ _
theorem out_goes {k : Nat} (hk : k < n) : goesU (outJ U n) k := by
  obtain ⟨h1, h2, h3⟩ := hok k hk
  have hkl := known_lt h1
  have hpv := (acc_le (fun j hj => hok j (Nat.lt_trans hj hk))).2
  have hc := out_code hok hk
  have hlen := acc_up U (show k + 1 ≤ n from hk)
  rw [acc_len] at hlen
  refine ⟨?_, by rw [hc]; omega⟩
  have hp := out_pos hok k (by omega)
  have hh := out_headU hok hk
  have hs := out_size hok hk
  unfold headU at hh hs
  unfold errU oneE
  rw [hp] at hh hs ⊢
  dsimp only at hh hs ⊢
  rw [if_neg (by rw [out_len]; omega), hs, hh]
  have hE : headE (unitB (U k).1.toNat (13 + (U k).2.length) (accU U k).2) ((accU U k).2 : Int) = 0 := by
    unfold headE
    rw [if_pos (unitB_mark _ _ _), unitB_code (by omega), unitB_next _ (by omega), unitB_prev _ _ (by omega)]
    unfold chkI
    rw [show (((U k).1.toNat : Nat) : Int) = (U k).1 by omega, h1, if_neg (by simp), if_neg (by simp), if_neg (by omega), if_neg (by omega)]
  rw [hE, if_neg (by simp), if_neg (by rw [out_len]; omega)]
theorem out_headE : headE (headU (outJ U n) n) (posU (outJ U n) n).2 = 0 := by
  have hpv := (acc_le hok).2
  rw [out_headL hok, out_pos hok n (Nat.le_refl _)]
  unfold headE
  rw [if_pos (unitB_mark _ _ _), unitB_code (by decide), unitB_next _ (by omega), unitB_prev _ _ (by omega)]
  unfold chkI
  rw [show knownI ((16 : Nat) : Int) = true by decide, if_neg (by simp), if_neg (by simp), if_neg (by omega), if_neg (by omega)]
theorem out_err : errU (outJ U n) n = 0 := by
  have hE := out_headE hok
  have hs := out_sizeL hok
  unfold headU at hE hs
  have hp := out_pos hok n (Nat.le_refl _)
  unfold errU oneE
  have hl := out_len U n
  rw [hE, hs, hp, hl]
  simp
theorem out_count : CountU (outJ U n) n := ⟨fun _ hj => out_goes hok hj, fun h => h.2 (out_codeL hok)⟩
theorem out_el {k : Nat} (hk : k < n) : elU (outJ U n) k = ((U k).1.toNat, (U k).2) := by
  unfold elU
  rw [out_code hok hk, out_size hok hk, out_pos hok k (by omega)]
  congr 1
  rw [show 13 + (U k).2.length - 13 = (U k).2.length by omega]
  exact out_data U hk
theorem out_end : (posU (outJ U n) n).1 + unitN (headU (outJ U n) n) = (outJ U n).length := by
  rw [out_sizeL hok, out_pos hok n (Nat.le_refl _), out_len]
theorem out_split : splitE (outJ U n) n = 0 := by
  unfold splitE endU
  rw [out_err hok, if_pos rfl, out_end hok]
  simp
end

/-! Bytes that agree up to a place. -/
theorem pos_agree {b c : List UInt8} {P : Nat} (hc : ∀ i m, i + m ≤ P → nextB c i m = nextB b i m) (hP : P ≤ c.length) : ∀ k, (∀ i, i < k → goesU b i) → (posU b k).1 ≤ P → posU c k = posU b k ∧ ∀ i, i < k → goesU c i
  | 0, _, _ => ⟨rfl, fun i hi => by omega⟩
  | k + 1, hg, hp => by
    have h13 : 13 ≤ unitN (headU b k) := Nat.le_max_right _ _
    rw [pos_succ] at hp
    dsimp only at hp
    obtain ⟨i1, i2⟩ := pos_agree hc hP k (fun i hi => hg i (by omega)) (by omega)
    have hh : headU c k = headU b k := by
      unfold headU
      rw [i1]
      exact hc _ _ (by omega)
    obtain ⟨g1, g2⟩ := hg k (by omega)
    obtain ⟨_, _, g3⟩ := oneE_ok g1
    refine ⟨by rw [pos_succ, pos_succ, hh, i1], fun i hi => ?_⟩
    by_cases hik : i = k
    · subst hik
      refine ⟨?_, by rw [hh]; exact g2⟩
      have hh' := hh
      unfold headU at hh' hp h13
      unfold errU oneE
      rw [i1] at hh' ⊢
      rw [hh', g3, if_neg (by omega), if_neg (by simp), if_neg (by omega)]
    · exact i2 i (by omega)
theorem find_step (f : Nat → Nat) (m : Nat) : ∀ n, f 0 ≤ m → m < f (n + 1) → ∃ j, j ≤ n ∧ f j ≤ m ∧ m < f (j + 1)
  | 0, h0, h1 => ⟨0, Nat.le_refl _, h0, h1⟩
  | n + 1, h0, h1 => by
    by_cases h : m < f (n + 1)
    · obtain ⟨j, h2, h3, h4⟩ := find_step f m n h0 h
      exact ⟨j, by omega, h3, h4⟩
    · exact ⟨n + 1, Nat.le_refl _, by omega, h1⟩
/-- A stream cut off. -/
theorem cut_split {U : Nat → Int × List UInt8} {n : Nat} (hok : ∀ k, k < n → okJ U k) {m : Nat} (hm : m < (outJ U n).length) {j : Nat} (hj : CountU (nextB (outJ U n) 0 m) j) : splitE (nextB (outJ U n) 0 m) j = 30 := by
  obtain ⟨b, hb⟩ : ∃ b, b = outJ U n := ⟨_, rfl⟩
  have hcl : (nextB (outJ U n) 0 m).length = m := nextB_len (by omega)
  have hag : ∀ i t, i + t ≤ m → nextB (nextB (outJ U n) 0 m) i t = nextB (outJ U n) i t := fun i t h => by
    rw [nextB_nextB h, Nat.zero_add]
  obtain ⟨q, hq, q1, q2⟩ := find_step (fun k => (posU (outJ U n) k).1) m n (Nat.zero_le _) (by
    show m < (posU (outJ U n) (n + 1)).1
    rw [pos_succ]
    show m < (posU (outJ U n) n).1 + unitN (headU (outJ U n) n)
    rw [out_end hok]; exact hm)
  obtain ⟨p1, p2⟩ := pos_agree hag (by omega) q (fun i hi => out_goes hok (by omega)) q1
  have herr : errU (nextB (outJ U n) 0 m) q = 30 := by
    unfold errU oneE
    rw [hcl, p1]
    split
    · rfl
    · rename_i h13
      have hh := hag (posU (outJ U n) q).1 13 (by omega)
      rw [hh]
      have hE : headE (headU (outJ U n) q) (posU (outJ U n) q).2 = 0 := by
        by_cases hqn : q = n
        · subst hqn; exact out_headE hok
        · exact (oneE_ok (out_goes hok (show q < n by omega)).1).2.2
      unfold headU at hE
      have q2' : m < (posU (outJ U n) q).1 + unitN (nextB (outJ U n) (posU (outJ U n) q).1 13) := q2
      rw [hE, if_neg (by simp), if_pos q2']
  have hcnt : CountU (nextB (outJ U n) 0 m) q := ⟨p2, fun h => by have := h.1; rw [herr] at this; cases this⟩
  obtain rfl := count_one hj hcnt
  unfold splitE
  rw [herr]
  simp
/-- A stream with one byte more. -/
theorem more_split {U : Nat → Int × List UInt8} {n : Nat} (hok : ∀ k, k < n → okJ U k) (x : UInt8) {j : Nat} (hj : CountU (outJ U n ++ [x]) j) : splitE (outJ U n ++ [x]) j = 272 := by
  have hcl : (outJ U n ++ [x]).length = (outJ U n).length + 1 := by simp
  have hag : ∀ i t, i + t ≤ (outJ U n).length → nextB (outJ U n ++ [x]) i t = nextB (outJ U n) i t := fun i t h => by
    unfold nextB
    rw [List.drop_append_of_le_length (by omega), List.take_append_of_le_length (by rw [List.length_drop]; omega)]
  have hend := out_end hok
  have hsz := out_sizeL hok
  obtain ⟨p1, p2⟩ := pos_agree hag (by omega) n (fun i hi => out_goes hok hi) (by omega)
  have hh : headU (outJ U n ++ [x]) n = headU (outJ U n) n := by
    unfold headU
    rw [p1]
    exact hag _ _ (by omega)
  have hE := out_headE hok
  have herr : errU (outJ U n ++ [x]) n = 0 := by
    have hh' := hh
    unfold headU at hh' hE hend hsz
    unfold errU oneE
    rw [p1] at hh' ⊢
    rw [hh', hE, if_neg (by omega), if_neg (by simp), if_neg (by omega)]
  have hcnt : CountU (outJ U n ++ [x]) n := ⟨p2, fun h => h.2 (by rw [hh]; exact out_codeL hok)⟩
  obtain rfl := count_one hj hcnt
  unfold splitE endU
  rw [herr, if_pos rfl, hh, p1, hend, hcl]
  simp
end Go.Proofs.Ytbekkdlgibijdaa
