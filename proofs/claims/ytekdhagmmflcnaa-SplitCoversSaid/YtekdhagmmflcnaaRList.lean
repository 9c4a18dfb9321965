/- The contract of the document's List of parts. -/
import Derived.Test.YtekdhagmmflcnaaListb
import Derived.Deep.RegionHeld3
import Derived.Deep.AppendLies
namespace Go.Proofs.Ytekdhagmmflcnaa
open Go.RowKit Go.Shelf

theorem rectL_at {w h m n : Int} {i j : Nat} (hi : (i : Int) < m) (hj : (j : Int) < n) :
    rectL w h m n (j * m.toNat + i) = [.int .i64 (w * i / m), .int .i64 (h * j / n), .int .i64 (w * (i + 1) / m - w * i / m), .int .i64 (h * (j + 1) / n - h * j / n)] := by
  have h1 : (j * m.toNat + i) % m.toNat = i := by rw [Nat.mul_comm, Nat.mul_add_mod, Nat.mod_eq_of_lt (by omega)]
  have h2 : (j * m.toNat + i) / m.toNat = j := by rw [Nat.mul_comm, Nat.mul_add_div (by omega), Nat.div_eq_of_lt (by omega)]; omega
  have h3 : j % n.toNat = j := Nat.mod_eq_of_lt (by omega)
  unfold rectL colI rowI fromI
  rw [h1, h2, h3]
theorem wrap_in {x : Int} (h0 : -9223372036854775808 ≤ x) (h1 : x ≤ 9223372036854775807) : IntKind.i64.wrap x = x := by rw [IntKind.wrap_i64]; omega

set_option maxRecDepth 100000 in
set_option maxHeartbeats 2000000 in
theorem refList_yes (w h m n : Int) (W : World) (hr : rightI w h m n = true) :
    Calls Try.prog 8 #[.int .i64 w, .int .i64 h, .int .i64 m, .int .i64 n] W fun e w' => ∃ v, e = .returned v ∧ w'.ownsRow W.heap.size 28 4 v (m * n).toNat (partsL w h m n (List.range (m * n).toNat)) ∧ Below W.heap.size W w' := by
  obtain ⟨i0, hi, hz0, hz1, hz2⟩ := info_parts info28
  obtain ⟨w0, w1, hh0, hh1, m0, m1, nn0, nn1⟩ := rightI_yes hr
  go_enter Try.func8, Try.ntmps8
  go_wp2_with (go_at_call 10; refine (refRight_any _ _ _ _ _).mono ?_; rintro e w' ⟨rfl, rfl⟩)
  go_loopw [9, 10] (fun v i wr => ∃ j : Nat, (j : Int) ≤ n ∧ i = .int .i64 j ∧ wr.ownsRow W.heap.size 28 4 v (j * m.toNat) (partsL w h m n (List.range (j * m.toNat))) ∧ Below W.heap.size W wr) (fun _ i _ => (n - intOf i).toNat)
  case atStart => exact ⟨0, by omega, rfl, by simpa [partsL] using World.ownsRow_nil _ _ _ _, Below.refl _ _⟩
  case round =>
    obtain ⟨j, hj, rfl, hrow, hB⟩ := hrel
    obtain ⟨wo, rfl⟩ : ∃ wo : World, wo = wr := ⟨_, rfl⟩
    by_cases hlt : (j : Int) < n
    · go_wp2
      go_loopw [9, 11] (fun v i wr => ∃ i' : Nat, (i' : Int) ≤ m ∧ i = .int .i64 i' ∧ wr.ownsRow W.heap.size 28 4 v (j * m.toNat + i') (partsL w h m n (List.range (j * m.toNat + i'))) ∧ Below W.heap.size W wr) (fun _ i _ => (m - intOf i).toNat)
      case atStart => exact ⟨0, by omega, rfl, hrow, hB⟩
      case round =>
        clear hrow hB
        obtain ⟨i, hi', rfl, hrow, hB⟩ := hrel
        by_cases hlti : (i : Int) < m
        · obtain ⟨a0, a1⟩ := prod_bd (by omega : 0 ≤ w) w1 (by omega : (0 : Int) ≤ i) (by omega : (i : Int) ≤ 63)
          obtain ⟨b0, b1⟩ := prod_bd (by omega : 0 ≤ w) w1 (by omega : (0 : Int) ≤ i + 1) (by omega : (i : Int) + 1 ≤ 64)
          obtain ⟨d0, d1⟩ := prod_bd (by omega : 0 ≤ h) hh1 (by omega : (0 : Int) ≤ j) (by omega : (j : Int) ≤ 63)
          obtain ⟨e0, e1⟩ := prod_bd (by omega : 0 ≤ h) hh1 (by omega : (0 : Int) ≤ j + 1) (by omega : (j : Int) + 1 ≤ 64)
          have f0 := from_bd (s := w) (p := m) (by omega) w1 m0 (by omega : (0 : Int) ≤ i) (by omega : (i : Int) ≤ 64)
          have f1 := from_bd (s := w) (p := m) (by omega) w1 m0 (by omega : (0 : Int) ≤ i + 1) (by omega : (i : Int) + 1 ≤ 64)
          have f2 := from_bd (s := h) (p := n) (by omega) hh1 nn0 (by omega : (0 : Int) ≤ j) (by omega : (j : Int) ≤ 64)
          have f3 := from_bd (s := h) (p := n) (by omega) hh1 nn0 (by omega : (0 : Int) ≤ j + 1) (by omega : (j : Int) + 1 ≤ 64)
          unfold fromI at f0 f1 f2 f3
          go_wp2
          go_quiet (fail)
          go_wp2
          obtain ⟨w2, hw2⟩ : ∃ w2, w2 = wr.drewN nq := ⟨_, rfl⟩
          have hrow2 : w2.ownsRow W.heap.size 28 4 u9 (j * m.toNat + i) (partsL w h m n (List.range (j * m.toNat + i))) := by rw [hw2]; exact hrow
          have hB2 : Below W.heap.size W w2 := by rw [hw2]; exact below_drewN hB _
          rw [← hw2]
          clear hw2 hrow hB
          have hs2 := hB2.size
          have hkn : j * m.toNat + i < 4096 := by
            have := idx_lt (n := n) (by omega : 0 ≤ m) hlti hlt
            have := Int.mul_le_mul m1 nn1 (by omega) (by omega : (0 : Int) ≤ 64)
            omega
          have hR := rectL_at (w := w) (h := h) hlti hlt
          have HR := Lib.hid hR
          clear hR
          have hm0 : ¬ m = 0 := by omega
          have hn0 : ¬ n = 0 := by omega
          have hmx : j * m.toNat + i + 1 ≤ maxLen := by unfold maxLen; omega
          have hby : (j * m.toNat + i + 1) * 32 ≤ 140737488355328 := by omega
          have q1 : IntKind.i64.wrap ((i : Int) + 1) = (i : Int) + 1 := wrap_in (by omega) (by omega)
          have q2 : IntKind.i64.wrap (w * ((i : Int) + 1)) = w * ((i : Int) + 1) := wrap_in (by omega) (by omega)
          have q3 : (w * ((i : Int) + 1)).tdiv m = w * ((i : Int) + 1) / m := Int.tdiv_eq_ediv_of_nonneg b0
          have q4 : IntKind.i64.wrap (w * ((i : Int) + 1) / m) = w * ((i : Int) + 1) / m := wrap_in (by omega) (by omega)
          have q5 : IntKind.i64.wrap (w * ((i : Int) + 1) / m - w * (i : Int) / m) = w * ((i : Int) + 1) / m - w * (i : Int) / m := wrap_in (by omega) (by omega)
          have r1 : IntKind.i64.wrap ((j : Int) + 1) = (j : Int) + 1 := wrap_in (by omega) (by omega)
          have r2 : IntKind.i64.wrap (h * ((j : Int) + 1)) = h * ((j : Int) + 1) := wrap_in (by omega) (by omega)
          have r3 : (h * ((j : Int) + 1)).tdiv n = h * ((j : Int) + 1) / n := Int.tdiv_eq_ediv_of_nonneg e0
          have r4 : IntKind.i64.wrap (h * ((j : Int) + 1) / n) = h * ((j : Int) + 1) / n := wrap_in (by omega) (by omega)
          have r5 : IntKind.i64.wrap (h * ((j : Int) + 1) / n - h * (j : Int) / n) = h * ((j : Int) + 1) / n - h * (j : Int) / n := wrap_in (by omega) (by omega)
          have hbs : W.heap.size ≤ (w2.alloc (.cells #[.int .i64 (w * i / m), .int .i64 (h * j / n), .int .i64 (w * (i + 1) / m - w * i / m), .int .i64 (h * (j + 1) / n - h * j / n)] 28)).drew.heap.size := by simp; omega
          go_region_held3 (fun _ => True) (trivial)
            ((refine step_append_lies _ (by rfl) _ _ _ (by rfl) W.heap.size 28 i0 _ 4 32 Try.underlying24 hi hz0 hz1 hz2 rfl (by decide) u9 (j * m.toNat + i) _ (by rfl) ((hrow2.alloc _).drew) ⟨w2.heap.size, 0, none⟩ 1 1 [.int .i64 (w * i / m), .int .i64 (h * j / n), .int .i64 (w * (i + 1) / m - w * i / m), .int .i64 (h * (j + 1) / n - h * j / n)] (by rfl) (by rfl) (World.news_of_block (cs := #[.int .i64 (w * i / m), .int .i64 (h * j / n), .int .i64 (w * (i + 1) / m - w * i / m), .int .i64 (h * (j + 1) / n - h * j / n)]) (t := 28) (fr := (0, 0)) (heap_alloc_new w2 _)) (by simp [Value.oneCell']) (by decide) hmx hby hbs (w2.heap.size + 1) (by simp) ?_; intro gg cap w3 hown3 hgrow hat hlt3))
          clear q1 q2 q3 q4 q5 r1 r2 r3 r4 r5
          have hB3 : Below W.heap.size W w3 := ((hB2.alloc (by omega) _).drew).grown hgrow (by simp; omega) (fun k hk => (hrow2.lt k hk).1)
          have hown4 : w3.ownsRow W.heap.size 28 4 (.slice (some ⟨gg, 0, none⟩) (j * m.toNat + i + 1) cap) (j * m.toNat + (i + 1)) (partsL w h m n (List.range (j * m.toNat + (i + 1)))) := by
            rw [← Nat.add_assoc, List.range_succ, partsL_snoc, HR.out]; exact hown3
          clear hown3 hgrow hat hlt3 hrow2 hB2 hmx hby hbs hs2
          go_wp2
          go_roundw
          case rel => exact ⟨i + 1, by omega, by go_num, hown4, hB3⟩
          case measure => simp [intOf]; omega
        · go_wp2
          refine ⟨⟨j + 1, by omega, by go_num, ?_, hB⟩, by simp [intOf]; omega⟩
          have e : (j + 1) * m.toNat = j * m.toNat + i := by rw [Nat.add_mul]; omega
          rw [e]; exact hrow
    · have e : j * m.toNat = (m * n).toNat := by
        have e1 : ((j : Nat) : Int) = n := by omega
        rw [← e1]
        have := idx_at (m := m) (i := 0) (j := j) (by omega)
        rw [Int.mul_comm]
        omega
      have E := Lib.hid e
      clear e
      go_wp2
      go_ret
      exact ⟨_, rfl, by rw [← E.out]; exact hrow, hB⟩

set_option maxHeartbeats 1000000 in
theorem refList_any (w h m n : Int) (W : World) :
    Calls Try.prog 8 #[.int .i64 w, .int .i64 h, .int .i64 m, .int .i64 n] W fun e w' => ∃ v, e = .returned v ∧ w'.ownsRow W.heap.size 28 4 v (cntI w h m n) (partsL w h m n (List.range (cntI w h m n))) ∧ Below W.heap.size W w' := by
  cases hr : rightI w h m n with
  | true =>
    have hcn : cntI w h m n = (m * n).toNat := by unfold cntI; rw [if_pos hr]
    rw [hcn]
    exact refList_yes w h m n W hr
  | false =>
    have hcn : cntI w h m n = 0 := by unfold cntI; rw [if_neg (by simp [hr])]
    rw [hcn]
    go_enter Try.func8, Try.ntmps8
    go_wp2_with (go_at_call 10; refine (refRight_any _ _ _ _ _).mono ?_; rintro e w' ⟨rfl, rfl⟩)
    go_ret
    exact ⟨_, rfl, by simpa [partsL] using World.ownsRow_nil _ _ _ _, Below.refl _ _⟩
end Go.Proofs.Ytekdhagmmflcnaa
