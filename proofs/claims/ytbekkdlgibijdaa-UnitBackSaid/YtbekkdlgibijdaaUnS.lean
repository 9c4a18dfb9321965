/- The document's Split. -/
import Derived.Test.YtbekkdlgibijdaaUnR
import Derived.Deep.DeepCutAuto
namespace Go.Proofs.Ytbekkdlgibijdaa
open Go.RowKit

theorem kept_append {W w1 : World} {n₁ : Nat} {size : Nat} {v : Value} {k : Nat} {xs : List Value} {tmp : Obj} (hrow : W.ownsRow n₁ 66 size v k xs) (hgrow : (W.alloc tmp).grownBy w1 v.ownBlock) : Kept [66] W w1 := fun i cs t fr e ht => by
  have hi := block_lt e
  rw [hgrow.block i (by simp; omega) (fun e2 => ?_), Below.heap_alloc _ _ _ hi]
  · exact e
  · obtain ⟨cs2, h2⟩ := own_type hrow i e2.symm
    rw [e] at h2; cases h2; exact ht (by decide)
set_option maxRecDepth 20000 in
set_option maxHeartbeats 4000000 in
theorem refSplit_any (v0 : Value) (b : List UInt8) (w : World) (h : BytesC w v0 b) (hl : b.length ≤ 2147483647) :
    Calls Try.prog 40 #[v0] w (SplitPost b w) := by
  obtain ⟨i0, hi, hz0, hz1, hz2⟩ := info_parts info66c
  have HH := Lib.hid h
  obtain ⟨A, cp, rfl, _, _⟩ := h
  have hb9 : (b.length : Int) ≤ 2147483647 := by omega
  go_enter Try.func40, Try.ntmps40
  go_wp2_with fail
  go_loopw [4, 5, 6] (fun ov av sv wr => ∃ (k : Nat) (xs : List UX) (at_ : Nat) (sz : Int), at_ ≤ b.length ∧ av = .int .i64 (at_ : Nat) ∧ sv = .int .i64 sz ∧ Hid (at_ = (posU b k).1 ∧ sz = (posU b k).2) ∧ Hid (∀ j, j < k → goesU b j) ∧ Hid (xs.map (·.1) = (List.range k).map (elU b)) ∧ Hid (wr.ownsRow w.heap.size 66 2 ov xs.length (rowU xs)) ∧ Hid (∀ x ∈ xs, UG w.heap.size x wr) ∧ Hid (Below w.heap.size w wr)) (fun _ av _ _ => (b.length - intOf av).toNat)
  case atStart => exact ⟨0, [], 0, 0, by omega, rfl, rfl, Lib.hid ⟨rfl, rfl⟩, Lib.hid (fun j hj => by omega), Lib.hid rfl, Lib.hid (World.ownsRow_nil _ _ _ _), Lib.hid (by simp), Lib.hid (Below.refl _ _)⟩
  case round =>
    obtain ⟨k, xs, at_, sz, hat, rfl, rfl, hps, hgo, hxs, hown, hG, hB⟩ := hrel
    have hat' : (at_ : Int) ≤ (b.length : Int) := by omega
    have hone := one_any wr A cp b at_ sz (HH.out.later hB.out) hl hat
    have herr : errU b k = oneE b at_ sz := by unfold errU; rw [← hps.out.1, ← hps.out.2]
    obtain ⟨Ao, mo, co, hov⟩ : ∃ A m c, _ = Value.slice A m c := by
      rcases hown.out.2 with ⟨hv, _⟩ | ⟨g, cap, cur, hv, _⟩
      · exact ⟨_, _, _, hv⟩
      · exact ⟨_, _, _, hv⟩
    subst hov
    by_cases hE : oneE b at_ sz = 0
    · have hone2 := hone.mono fun e w' hp => (show Below wr.heap.size wr w' ∧ ∃ v, e = .returned (.tuple #[.agg #[.int .i64 (hCode (nextB b at_ 13) : Nat), v], .int .i64 (unitN (nextB b at_ 13) : Nat), .int .i64 0]) ∧ BytesAt w' wr.heap.size v (nextB b (at_ + 13) (unitN (nextB b at_ 13) - 13)) from by
        rcases hp with ⟨hb, ⟨h0, _⟩ | ⟨_, hv⟩⟩
        · exact absurd hE h0
        · exact ⟨hb, hv⟩)
      obtain ⟨he1, he2, _⟩ := oneE_ok hE
      have hhd : headU b k = nextB b at_ 13 := by unfold headU; rw [← hps.out.1]
      have hcd4 := hCode_lt (nextB b at_ 13)
      have hun4 : unitN (nextB b at_ 13) ≤ 4294967296 := by have := hNext_lt (nextB b at_ 13); unfold unitN; omega
      have hel : elU b k = (hCode (nextB b at_ 13), nextB b (at_ + 13) (unitN (nextB b at_ 13) - 13)) := by unfold elU; rw [hhd, ← hps.out.1]
      have hpos : posU b (k + 1) = (at_ + unitN (nextB b at_ 13), ((unitN (nextB b at_ 13) : Nat) : Int)) := by rw [pos_succ, hhd, ← hps.out.1]
      have hend : endU b k = at_ + unitN (nextB b at_ 13) := by unfold endU; rw [herr, if_pos hE, hhd, ← hps.out.1]
      have hgoes : goesU b k ↔ hCode (nextB b at_ 13) ≠ 16 := by unfold goesU; rw [herr, hhd]; exact ⟨fun h => h.2, fun h => ⟨hE, h⟩⟩
      have hsp : splitE b k = if endU b k < b.length then 272 else 0 := by unfold splitE; rw [herr, hE]; simp
      obtain ⟨cd, hcd⟩ : ∃ c, c = hCode (nextB b at_ 13) := ⟨_, rfl⟩
      obtain ⟨N, hN'⟩ : ∃ c, c = unitN (nextB b at_ 13) := ⟨_, rfl⟩
      obtain ⟨dat, hdat⟩ : ∃ d, d = nextB b (at_ + 13) (N - 13) := ⟨_, rfl⟩
      have hN13 : 13 ≤ N := by rw [hN']; exact Nat.le_max_right _ _
      rw [← hcd, ← hN', ← hdat] at hone2 hel
      rw [← hN'] at hpos hend he2 hun4
      rw [← hcd] at hgoes hcd4
      rw [hend] at hsp
      have HF := Lib.hid (And.intro hel (And.intro hpos (And.intro hgoes hsp)))
      have HONE := Lib.hid hone2
      have HA := Lib.hid he2
      have hN16 : (N : Int) ≤ 4294967296 := by omega
      have hatN : (at_ : Int) + (N : Int) ≤ (b.length : Int) := by omega
      have hk4 := count_le (b := b) hgo.out
      have hlx : xs.length = k := by have := congrArg List.length hxs.out; simpa using this
      have hk5 : xs.length ≤ 200000000 := by omega
      clear hE hone hone2 hel hpos hgoes hsp hend hcd hN' hdat he1 he2 hhd herr hun4 hk4
      have HLX := Lib.hid hlx
      clear hlx
      go_wp2_with fail
      refine HONE.out.mono ?_
      clear HONE
      rintro e w5 ⟨hb5, v, rfl, hby⟩
      obtain ⟨A5, m5, c5, rfl⟩ := bytes_form hby
      have hal := (Below.refl w5.heap.size w5).alloc (Nat.le_refl _) (.cells #[.int .i64 (cd : Nat), .slice A5 m5 c5] 66)
      have hb6 := hb5.trans (hal.mono hb5.size)
      have HB6 := Lib.hid (hB.out.trans (hb6.mono hB.out.size))
      have HO6 := Lib.hid (show (w5.alloc (.cells #[.int .i64 (cd : Nat), .slice A5 m5 c5] 66)).ownsRow w.heap.size 66 2 (.slice Ao mo co) xs.length (rowU xs) from hown.out.kept (below_grown hb6) (by cases (Value.slice Ao mo co).ownBlock <;> simp))
      have HG6 := Lib.hid (show ∀ x ∈ xs, UG w.heap.size x (w5.alloc (.cells #[.int .i64 (cd : Nat), .slice A5 m5 c5] 66)) from fun x hx => BytesAt.later (hG.out x hx) hb6)
      have HU6 := Lib.hid (heap_alloc_new w5 (.cells #[.int .i64 (cd : Nat), .slice A5 m5 c5] 66))
      have HR6 := Lib.hid ((hby.later hal).mono hB.out.size)
      clear hby hb5 hal hb6
      by_cases h16 : cd = 16
      · subst h16
        by_cases hlt : at_ + N < b.length
        · have hlt' : (at_ : Int) + (N : Int) < (b.length : Int) := by omega
          have hr := HF.out.2.2.2
          rw [if_pos hlt] at hr
          have HR := Lib.hid hr
          clear hr hlt
          go_wp2
          go_ret2
          exact ⟨_, xs, k, by rw [HR.out]; rfl, ⟨hgo.out, fun h => HF.out.2.2.1.1 h rfl⟩, hxs.out, HO6.out, HG6.out, HB6.out⟩
        · have hlt' : ¬ (at_ : Int) + (N : Int) < (b.length : Int) := by omega
          have hr := HF.out.2.2.2
          rw [if_neg hlt] at hr
          have HR := Lib.hid hr
          clear hr hlt
          go_wp2
          go_ret2
          exact ⟨_, xs, k, by rw [HR.out]; rfl, ⟨hgo.out, fun h => HF.out.2.2.1.1 h rfl⟩, hxs.out, HO6.out, HG6.out, HB6.out⟩
      · have h16b : ((cd : Int) == 16) = false := by simp; omega
        have HGO := Lib.hid (HF.out.2.2.1.2 h16)
        clear h16
        go_upto_region 12 with fail
        obtain ⟨W6, hW6⟩ : ∃ W6, W6 = w5.alloc (.cells #[.int .i64 (cd : Nat), .slice A5 m5 c5] 66) := ⟨_, rfl⟩
        obtain ⟨ub, hub⟩ : ∃ ub, ub = w5.heap.size := ⟨_, rfl⟩
        rw [← hW6, ← hub]
        rw [← hW6] at HB6 HO6 HG6 HU6 HR6
        rw [← hub] at HU6
        have u0 := cell_of_row _ _ 0 _ _ _ HU6.out
        have u1 := cell_of_row _ _ 1 _ _ _ HU6.out
        have H1C := Lib.hid (one_cells (x := ((cd, dat), .slice A5 m5 c5)) HR6.out)
        clear hW6 hub
        go_wp2_with (at_builtin; refine wpList_append_own _ rfl _ _ 73 rfl w.heap.size 66 i0 (.agg #[.int .i64 0, .slice none 0 0]) 2 32 Try.underlying73 hi hz0 hz1 hz2 rfl (by decide) (.slice Ao mo co) xs.length (rowU xs) rfl (HO6.out.alloc _) ⟨W6.heap.size, 0, none⟩ 1 1 (cellU ((cd, dat), .slice A5 m5 c5)) rfl rfl (cells_new _ (cellU ((cd, dat), .slice A5 m5 c5)).toArray _) H1C.out (by unfold maxLen; omega) (by have := HB6.out.size; first | omega | (simp; omega)) (by have := HB6.out.size; first | omega | (simp; omega)) ?_; intro v7 W7 hown7 hgrow7 _; have HO7 := Lib.hid hown7; have HG7 := Lib.hid hgrow7; clear hown7 hgrow7)
        have hk7 := kept_append HO6.out HG7.out
        have hown7 : W7.ownsRow w.heap.size 66 2 v7 (xs ++ [((cd, dat), Value.slice A5 m5 c5)]).length (rowU (xs ++ [((cd, dat), Value.slice A5 m5 c5)])) := by
          rw [rowU_snoc, List.length_append]; exact HO7.out
        have hB7 : Below w.heap.size w W7 := (HB6.out.alloc HB6.out.size _).grown HG7.out (by have := HB6.out.size; simp; omega) (fun j hj => (HO6.out.lt j hj).1)
        have hx7 : (xs ++ [((cd, dat), Value.slice A5 m5 c5)]).map (·.1) = (List.range (k + 1)).map (elU b) := by
          rw [List.map_append, hxs.out, List.range_succ, List.map_append]
          simp only [List.map_cons, List.map_nil]
          rw [HF.out.1]
        go_roundw
        case rel => exact ⟨k + 1, xs ++ [((cd, dat), Value.slice A5 m5 c5)], at_ + N, (N : Nat), HA.out, by go_num, rfl, Lib.hid (by rw [HF.out.2.1]; exact ⟨rfl, rfl⟩), Lib.hid (fun j hj => by
          by_cases hjk : j = k
          · rw [hjk]; exact HGO.out
          · exact hgo.out j (by omega)), Lib.hid hx7, Lib.hid hown7, Lib.hid (fun y hy => by
            rcases List.mem_append.1 hy with hy | hy
            · exact BytesAt.kept (HG6.out y hy) hk7 (by decide)
            · rw [List.mem_singleton] at hy
              subst hy
              exact BytesAt.kept HR6.out hk7 (by decide)), Lib.hid hB7⟩
        case measure => simp [intOf]; omega
    · have hone2 := hone.mono fun e w' hp => (show e = .returned (.tuple #[.agg z66, .int .i64 0, .int .i64 (oneE b at_ sz)]) ∧ Below wr.heap.size wr w' from by
        rcases hp with ⟨hb, ⟨_, he⟩ | ⟨h0, _⟩⟩
        · exact ⟨he, hb⟩
        · exact absurd h0 hE)
      have hsp : oneE b at_ sz = splitE b k := by unfold splitE; rw [herr, if_neg (fun h => hE h.1)]
      have hcnt : CountU b k := ⟨hgo.out, fun h => hE (by rw [← herr]; exact h.1)⟩
      have HSP := Lib.hid (And.intro hsp hcnt)
      obtain ⟨E, hEe⟩ : ∃ E, E = oneE b at_ sz := ⟨_, rfl⟩
      rw [← hEe] at hE hone2 HSP
      have hne : (E != 0) = true := by simp [hE]
      have HONE := Lib.hid hone2
      clear hE hone hone2 hEe herr hsp hcnt
      go_wp2_with fail
      refine HONE.out.mono ?_
      rintro e w5 ⟨rfl, hb5⟩
      have HB5 := Lib.hid (hb5.alloc hb5.size (.cells z66 66))
      clear hb5
      go_wp2
      go_ret2
      refine ⟨_, xs, k, by rw [HSP.out.1]; rfl, HSP.out.2, hxs.out, hown.out.kept (below_grown HB5.out) ?_, fun x hx => BytesAt.later (hG.out x hx) HB5.out, hB.out.trans (HB5.out.mono hB.out.size)⟩
      cases (Value.slice Ao mo co).ownBlock <;> simp
end Go.Proofs.Ytbekkdlgibijdaa
