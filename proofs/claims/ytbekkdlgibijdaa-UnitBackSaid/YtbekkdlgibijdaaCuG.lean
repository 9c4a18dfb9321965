/- The contract of Patch. -/
import Derived.Test.YtbekkdlgibijdaaCuF
import Derived.Laws.CopyOwn
namespace Go.Proofs.Ytbekkdlgibijdaa
open Go.RowKit

theorem take_splice {α : Type} (L : List α) (n k : Nat) (cs : List α) (h : n + cs.length ≤ k) (hk : k ≤ L.length) : (splice L n cs).take k = splice (L.take k) n cs := by
  unfold splice
  rw [List.take_append, List.take_append, List.take_take, List.length_take, List.drop_take, List.take_take, List.take_of_length_le (l := cs) (by omega), Nat.min_eq_left (show n ≤ L.length by omega), Nat.min_eq_right (show n ≤ k by omega), Nat.min_eq_left (show n ≤ k by omega)]
  congr 3
  omega
theorem map_splice {α β : Type} (f : α → β) (L : List α) (n : Nat) (cs : List α) : (splice L n cs).map f = splice (L.map f) n (cs.map f) := by simp [splice]
theorem spellB_len (m : Nat) : (spellB m).length = 4 := rfl
theorem pen_patched {w w4 : World} {B g cap n m : Nat} {l : List UInt8} {cur : Array Value} (hb : w.heap[B]? = some (.cells #[.slice (some ⟨g, 0, none⟩) l.length cap] 47 (0, 0)))
    (hcap : l.length ≤ cap) (hmax : cap ≤ maxLen) (hsz : cur.size = cap * 1) (hg : B + 1 ≤ g) (htk : cur.toList.take (l.length * 1) = l.map bv) (hn : n + 4 ≤ l.length)
    (hg4 : w4.heap[g]? = some (.cells (splice cur.toList n ((spellB m).map bv)).toArray 5 (0, 0))) (h4 : Below (B + 1) w w4) : PenAt w4 B (splice l n (spellB m)) := by
  have hl : (splice l n (spellB m)).length = l.length := length_splice _ _ _ (by rw [spellB_len]; omega)
  refine ⟨_, (h4.block _ (Nat.lt_succ_self B)).trans hb, by simp, .inr ⟨g, cap, _, by rw [hl], hg, hg4, by rw [hl]; exact hcap, hmax, ?_, ?_⟩⟩
  · rw [List.size_toArray, length_splice _ _ _ (by rw [List.length_map, spellB_len, Array.length_toList, hsz]; omega), Array.length_toList, hsz]
  · have hz : cur.toList.length = cap := by simpa using hsz
    rw [hl, map_splice, ← htk]
    exact take_splice _ _ _ _ (by rw [List.length_map, spellB_len]; omega) (by omega)
theorem patch_nil (a b : Int) (w : World) : Calls Try.prog 25 #[.pointer none, .int .i64 a, .int .i64 b] w fun e w' => e = .returned (.bool false) ∧ w = w' := by
  go_enter Try.func25, Try.ntmps25
  go_wp2_with (go_at_call 46; refine (right_cut _ _).mono ?_; rintro e w1 ⟨rfl, rfl⟩)
  go_ret
  exact ⟨rfl, rfl⟩
theorem patch_not {w : World} {B : Nat} {l : List UInt8} (a b : Int) (hp : PenAt w B l) (hl : l.length ≤ 4294967296) (h : ¬ (0 ≤ a ∧ a ≤ (l.length : Int) - 4 ∧ 0 ≤ b ∧ b < 4294967296)) :
    Calls Try.prog 25 #[.pointer (some ⟨B, 0, none⟩), .int .i64 a, .int .i64 b] w fun e w' => e = .returned (.bool false) ∧ w = w' := by
  obtain ⟨v, hb, hr⟩ := hp
  have k0 : w.cell? ⟨B, 0, none⟩ = some v := cell_of_row _ _ 0 _ _ _ hb
  obtain ⟨A, c, rfl, hc, _⟩ := bytes_of_own hr
  clear hb hr hc
  by_cases h1 : a < 0
  · clear h
    go_enter Try.func25, Try.ntmps25
    go_wp2_with (go_at_call 46; refine (right_cut _ _).mono ?_; rintro e w1 ⟨rfl, rfl⟩)
    go_ret
    exact ⟨rfl, rfl⟩
  · by_cases h2 : (l.length : Int) - 4 < a
    · clear h
      have h3 : ¬ a ≤ (l.length : Int) - 4 := by omega
      go_enter Try.func25, Try.ntmps25
      go_wp2_with (go_at_call 46; refine (right_cut _ _).mono ?_; rintro e w1 ⟨rfl, rfl⟩)
      go_ret
      exact ⟨rfl, rfl⟩
    · have hd : decide (0 ≤ b ∧ b < 4294967296) = false := by simp; omega
      have hR := fun w => right_cut b w
      rw [hd] at hR
      have HR := Lib.hid hR
      clear hR hd h
      have h3 : a ≤ (l.length : Int) - 4 := by omega
      go_enter Try.func25, Try.ntmps25
      go_wp2_with (go_at_call 46; refine (HR.out _).mono ?_; rintro e w1 ⟨rfl, rfl⟩)
      go_ret
      exact ⟨rfl, rfl⟩
set_option maxRecDepth 4000 in
set_option maxHeartbeats 1000000 in
theorem patch_yes {w : World} {B : Nat} {l : List UInt8} (n m : Nat) (hm : m < 4294967296) (h : PenAt w B l) (hl : l.length ≤ 4294967296) (hn : n + 4 ≤ l.length) :
    Calls Try.prog 25 #[.pointer (some ⟨B, 0, none⟩), .int .i64 (n : Nat), .int .i64 (m : Nat)] w fun e w' => e = .returned (.bool true) ∧ PenAt w' B (splice l n (spellB m)) ∧ Below (B + 1) w w' := by
  obtain ⟨v, hb, hr⟩ := h
  have k0 : w.cell? ⟨B, 0, none⟩ = some v := cell_of_row _ _ 0 _ _ _ hb
  have hBl := block_lt hb
  have hr2 := hr.2
  clear hr
  rcases hr2 with ⟨_, h0⟩ | ⟨g, cap, cur, rfl, hg, hh, hcap, hmax, hsz, htk⟩
  · omega
  have hgl := block_lt hh
  have H1 := Lib.hid hb
  have HK := Lib.hid htk
  have HG : Hid (w.heap[g]? = some (.cells cur.toList.toArray 5 (0, 0))) := Lib.hid hh
  have hR := fun w => right_cut (m : Nat) w
  rw [show decide ((0 : Int) ≤ (m : Nat) ∧ ((m : Nat) : Int) < 4294967296) = true by simp; omega] at hR
  have HR := Lib.hid hR
  have q0 : ((n : Nat) : Int) ≤ (l.length : Int) - 4 := by omega
  have q1 : ¬ (l.length : Int) - 4 < (n : Nat) := by omega
  have q2 : IntKind.i64.wrap ((l.length : Int) - 4) = (l.length : Int) - 4 := by rw [IntKind.wrap_i64]; omega
  have q3 : n ≤ l.length := by omega
  have q4 : ¬ cap = n := by omega
  have q5 : n < cap := by omega
  clear hb hR htk hh
  go_enter Try.func25, Try.ntmps25
  go_wp2_with (go_at_call 46; refine (HR.out _).mono ?_; rintro e w1 ⟨rfl, rfl⟩)
  go_region_law (first
    | (go_simp; go_at_call 47; refine (spell_any m hm _).mono ?_; rintro e w1 ⟨rfl, rfl⟩)
    | (refine step_copy_splice (by rfl) _ _ _ _ (by rfl) 5 Try.underlying22 (by kernel_rfl) (some ⟨g, n, none⟩) (some ⟨w.heap.size, 0, none⟩) (l.length - n) (cap - n) 4 4 (by rfl) (by rfl) g n cur.toList 5 (by exact ((((Below.refl (w.heap.size) w).alloc (Nat.le_refl _) _).drew).block g hgl).trans HG.out) ((spellB m).map bv) (by rw [List.length_map, spellB_len]; exact (Nat.min_eq_left (by omega)).symm) (fun _ => ⟨rfl, _, rfl, World.news_of_block (heap_alloc_new w _)⟩) (by rw [List.length_map, spellB_len, Array.length_toList, hsz]; omega) (bv_one _) (B + 1) w (((Below.refl (B + 1) w).alloc (by omega) _).drew) hg ?_; intro w4 hg4 hb4))
  all_goals (have H4 := hb4; clear hb4; go_wp2)
  all_goals go_ret
  all_goals exact ⟨rfl, pen_patched H1.out hcap hmax hsz hg HK.out hn hg4.out H4, H4⟩
end Go.Proofs.Ytbekkdlgibijdaa
