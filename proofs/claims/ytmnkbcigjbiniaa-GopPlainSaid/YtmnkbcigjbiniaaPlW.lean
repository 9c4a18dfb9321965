/- The law GopPlain: its walk. -/
import Derived.Test.YtmnkbcigjbiniaaFst
import Derived.OpenShut
namespace Go.Proofs.Ytmnkbcigjbiniaa.gopPlain
open Go.RowKit

/-- the k-th shot, where none stand between -/
def plainSh (p : Int) (k : Nat) : Sh := ⟨(k : Nat), if ownB p k = true then [] else [((k - 1 : Nat) : Int)], true, if 2 ≤ k then 2 else 0⟩
theorem anc_plain {n : Int} (k : Nat) (hk : k ≤ n.toNat - 1) : ancA n 0 k = k := by
  unfold ancA
  have : stepA 0 = 1 := rfl
  rw [this, anc_lo (by simpa using hk)]
  simp
theorem shots_plain {n p : Int} (hok : okA n p 0 = true) : shots n p 0 = (List.range n.toNat).map (plainSh p) := by
  obtain ⟨_, h1, h2⟩ := okA_yes hok
  have hc : cntA n p 0 = n.toNat := by
    unfold cntA
    rw [if_pos hok]
    have : stepA 0 = 1 := rfl
    rw [this]
    unfold cntG
    simp
    omega
  have key : ∀ m : Nat, m ≤ n.toNat → (List.range m).flatMap (groupG n p 0) = (List.range m).map (plainSh p) := by
    intro m
    induction m with
    | zero => intro _; rfl
    | succ m ih =>
      intro hm
      rw [List.range_succ, List.flatMap_append, List.map_append, ih (by omega)]
      congr 1
      have e0 := anc_plain (n := n) m (by omega)
      have e1 := anc_plain (n := n) (m - 1) (by omega)
      have e2 := anc_plain (n := n) (m - 2) (by omega)
      have hg : gapN n 0 m = 0 := by
        unfold gapN
        split
        · rfl
        · rw [e0, e1]; omega
      simp only [List.flatMap_cons, List.flatMap_nil, List.append_nil, List.map_cons, List.map_nil, groupG, hg, List.range_zero]
      unfold anchorSh plainSh
      rw [e0, e1, e2]
      congr 2
      split <;> omega
  unfold shots
  rw [hc]
  exact key _ (Nat.le_refl _)
theorem plain_nil {p : Int} {n : Int} (h : n < 1) : shots n p 0 = [] := by
  have hok : okA n p 0 = false := by
    unfold okA
    simp; omega
  unfold shots cntA
  rw [if_neg (by simp [hok])]
  rfl

set_option maxRecDepth 20000 in
set_option maxHeartbeats 4000000 in
theorem walk (w : World) (n q : Int) (hn0 : 0 ≤ n) (hn1 : n < 256) (hq0 : 0 ≤ q) (hq1 : q < 65536) :
    Calls Try.prog 6 #[.int .u8 n, .int .u16 q] w fun e w' => e = .returned (.bool true) ∧ Below w.heap.size w w' := by
  obtain ⟨P, hP, hP0, hP1⟩ : ∃ P, q % 1001 = P ∧ 0 ≤ P ∧ P ≤ 1000 := ⟨_, rfl, by omega, by omega⟩
  obtain ⟨N, rfl⟩ : ∃ N : Nat, n = N := ⟨n.toNat, by omega⟩
  go_enter Try.func6, Try.ntmps6
  go_wp2_with (first
    | (go_at_call 7; refine (first32 _).mono ?_; rintro e w1 ⟨rfl, hB1⟩))
  refine (list_any _ _ _ _).mono ?_
  rintro e w2 ⟨v, xs, rfl, hxs, hown, hG, hb2⟩
  obtain ⟨A, cap, rfl, hrow⟩ := shrow_of hown hG
  have hlen : xs.length = N := by
    by_cases h : 1 ≤ N
    · have hok : okA N P 0 = true := by unfold okA; rw [rightG_of (by omega)]; simp; omega
      have := congrArg List.length hxs
      rw [shots_plain hok] at this
      simpa using this
    · have := congrArg List.length hxs
      rw [plain_nil (by omega)] at this
      simp at this
      rw [this]; simp; omega
  have hat : ∀ k (hk : k < xs.length), xs[k].1 = plainSh P k := by
    intro k hk
    have hok : okA N P 0 = true := by unfold okA; rw [rightG_of (by omega)]; simp; omega
    have h1 : (xs.map (·.1))[k]? = some xs[k].1 := by simp [hk]
    rw [hxs, shots_plain hok, List.getElem?_map, List.getElem?_range (by rw [hlen] at hk; simpa using hk)] at h1
    exact (Option.some.inj h1).symm
  have hB2 := below2 hB1 hb2
  have HAT := Lib.hid hat
  have HROW := Lib.hid hrow
  have HG := Lib.hid hG
  clear hxs hown hG hb2 hat hrow hB1
  rw [hlen]
  go_wp2_with fail
  go_loopw [22] (fun i wr => ∃ k : Nat, k ≤ N ∧ i = .int .i64 k ∧ Below w2.heap.size w2 wr) (fun i _ => (N - intOf i).toNat)
  case atStart => exact ⟨0, by omega, rfl, Below.refl _ _⟩
  case round =>
    obtain ⟨k, hk, rfl, hB⟩ := hrel
    by_cases hlt : k < N
    · obtain ⟨g, B, m, c, rfl, d0, d1, d2, d3, dv⟩ := ShRow.at HROW.out (k := k) (by rw [hlen]; exact hlt)
      have hsh := HAT.out k (by rw [hlen]; exact hlt)
      have hgx := HG.out xs[k] (List.getElem_mem _)
      unfold ShG at hgx
      rw [hsh, dv] at hgx
      rw [hsh] at d0 d2 d3
      simp only [plainSh] at hgx d0 d2 d3
      have e0 := cell_later d0 hB
      have e1 := cell_later d1 hB
      have e2 := cell_later d2 hB
      have e3 := cell_later d3 hB
      have i1 : (0 : Int) ≤ (k : Int) := by omega
      have i2 : (k : Int) < (N : Int) := by omega
      clear d0 d1 d2 d3 dv hsh
      by_cases hk0 : k = 0
      · subst hk0
        obtain ⟨rfl, rfl, rfl⟩ : B = none ∧ m = 0 ∧ c = 0 := by
          rcases hgx with ⟨_, h⟩ | ⟨h, _⟩
          · cases h; exact ⟨rfl, rfl, rfl⟩
          · exact absurd (by rfl) h
        rw [if_neg (by omega)] at e3
        clear hgx
        go_wp2
        go_roundw
        case rel => first | exact ⟨k + 1, by omega, by go_num, hB.alloc hB.size _⟩ | exact ⟨1, by omega, by go_num, hB.alloc hB.size _⟩ | exact ⟨2, by omega, by go_num, hB.alloc hB.size _⟩
        case measure => simp [intOf]; omega
      have hk0b : ((k : Int) == 0) = false := by simp [hk0]
      have hk0c : (k == 0) = false := by simp [hk0]
      have i3 : (1 : Int) ≤ (k : Int) := by omega
      cases hown : ownB P k with
      | true =>
        rw [hown] at hgx
        obtain ⟨rfl, rfl, rfl⟩ : B = none ∧ m = 0 ∧ c = 0 := by
          rcases hgx with ⟨_, h⟩ | ⟨h, _⟩
          · cases h; exact ⟨rfl, rfl, rfl⟩
          · exact absurd (by simp) h
        unfold ownB at hown
        rw [hk0c] at hown
        simp only [Bool.false_or, Bool.and_eq_true, decide_eq_true_eq, beq_iff_eq] at hown
        obtain ⟨hp, hm⟩ := hown
        clear hgx hk0c hk0
        by_cases hk2 : 2 ≤ k
        · rw [if_pos hk2] at e3
          have hk2' : (2 : Int) ≤ (k : Int) := by omega
          have hq2 : 1 ≤ (k : Int) / 2 := by omega
          go_wp2
          go_roundw
          case rel => first | exact ⟨k + 1, by omega, by go_num, hB.alloc hB.size _⟩ | exact ⟨1, by omega, by go_num, hB.alloc hB.size _⟩ | exact ⟨2, by omega, by go_num, hB.alloc hB.size _⟩
          case measure => simp [intOf]; omega
        · obtain rfl : k = 1 := by omega
          rw [if_neg (by omega)] at e3
          go_wp2
          go_roundw
          case rel => first | exact ⟨k + 1, by omega, by go_num, hB.alloc hB.size _⟩ | exact ⟨1, by omega, by go_num, hB.alloc hB.size _⟩ | exact ⟨2, by omega, by go_num, hB.alloc hB.size _⟩
          case measure => simp [intOf]; omega
      | false =>
        rw [hown] at hgx
        obtain ⟨g2, hBm, hg2⟩ : ∃ g2, Value.slice B m c = .slice (some ⟨g2, 0, none⟩) 1 1 ∧ w2.heap[g2]? = some (.cells #[.int .i64 ((k - 1 : Nat) : Int)] 3 (0, 0)) := by
          rcases hgx with ⟨h, _⟩ | ⟨_, g2, h1, h2⟩
          · simp at h
          · exact ⟨g2, by simpa using h1, by simpa using h2⟩
        cases hBm
        have r0 : ∀ o, (wr.alloc o).cell? ⟨g2, 0, none⟩ = some (.int .i64 ((k : Int) - 1)) := fun o => by
          have c0 : w2.cell? ⟨g2, 0, none⟩ = some (.int .i64 ((k : Int) - 1)) := by
            rw [cell_of_row _ _ 0 _ _ _ hg2, show (((k - 1 : Nat)) : Int) = (k : Int) - 1 by omega]; rfl
          exact keep_alloc (cell_later c0 hB) o
        clear hgx hg2
        have hq : P = 0 ∨ 0 < P ∧ ((k : Int) % P == 0) = false := by
          unfold ownB at hown
          rw [hk0c] at hown
          simp only [Bool.false_or, Bool.and_eq_false_iff, decide_eq_false_iff_not] at hown
          rcases hown with h | h
          · exact .inl (by omega)
          · by_cases h0 : P = 0
            · exact .inl h0
            · exact .inr ⟨by omega, h⟩
        clear hown hk0c hk0
        rcases hq with rfl | ⟨hp, hm⟩
        all_goals
          by_cases hk2 : 2 ≤ k
          · rw [if_pos hk2] at e3
            have hk2' : (2 : Int) ≤ (k : Int) := by omega
            have hq2 : 1 ≤ (k : Int) / 2 := by omega
            go_wp2
            go_roundw
            case rel => first | exact ⟨k + 1, by omega, by go_num, hB.alloc hB.size _⟩ | exact ⟨2, by omega, by go_num, hB.alloc hB.size _⟩
            case measure => simp [intOf]; omega
          · rw [if_neg hk2] at e3
            have hq2 : (k : Int) / 2 = 0 := by omega
            go_wp2
            go_roundw
            case rel => first | exact ⟨k + 1, by omega, by go_num, hB.alloc hB.size _⟩ | exact ⟨2, by omega, by go_num, hB.alloc hB.size _⟩
            case measure => simp [intOf]; omega
    · obtain rfl : k = N := by omega
      go_wp2
      go_ret
      exact ⟨rfl, below2 hB2 hB⟩
open Go.ChangeShapes Go.WideShapes in
theorem walk2 (w : World) (n : Int) (hn : (Lit.int .u8 n).wf = true) (q : Int) (hq : (Lit.int .u16 q).wf = true) :
    Calls Try.prog 6 #[.int .u8 n, .int .u16 q] w fun e w' => e = .returned (.bool true) ∧ Below w.heap.size w w' :=
  walk w n q (bounds_u8 hn).1 (by have := (bounds_u8 hn).2; omega) (bounds_u16 hq).1 (by have := (bounds_u16 hq).2; omega)
end Go.Proofs.Ytmnkbcigjbiniaa.gopPlain
