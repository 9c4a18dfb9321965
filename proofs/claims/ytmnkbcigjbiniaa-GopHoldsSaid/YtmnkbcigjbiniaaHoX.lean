/- The law GopHolds: its walk, where there are pictures. -/
import Derived.Test.YtmnkbcigjbiniaaHoV
namespace Go.Proofs.Ytmnkbcigjbiniaa.gopHolds
open Go.RowKit
open Go.Maps (int_keyed)

theorem grown_set (w : World) (B o : Nat) (v : Value) : w.grownBy (w.setCell ⟨B, o, none⟩ v) (some B) :=
  ⟨rfl, rfl, rfl, by simp, fun k _ hk => heap_setCell_other _ _ _ _ (fun e => hk (by rw [e]))⟩
theorem refs_at {w : World} {B : Option Addr} {m c : Nat} {l : List Int} (h : RefsAt w (.slice B m c) l) : m = l.length ∧ ∃ g, (m = 0 ∨ B = some ⟨g, 0, none⟩) ∧ ∀ q (hq : q < l.length), w.cell? ⟨g, q, none⟩ = some (.int .i64 l[q]) := by
  rcases h with ⟨h1, h2⟩ | ⟨h1, g, h2, h3⟩
  · cases h2; subst h1
    exact ⟨rfl, 0, .inl rfl, fun q hq => by simp at hq⟩
  · cases h2
    refine ⟨rfl, g, .inr rfl, fun q hq => ?_⟩
    rw [cell_of_row _ _ _ _ _ _ h3]
    simp [hq]

set_option maxRecDepth 20000 in
set_option maxHeartbeats 8000000 in
theorem walk_yes (w : World) (N : Nat) (p b : Int) (hn1 : N < 256) (hok : okA N p b = true) :
    Calls Try.prog 5 #[.int .u8 N, .agg #[.int .i64 p, .int .i64 b]] w fun e w' => e = .returned (.bool true) ∧ Below w.heap.size w w' := by
  obtain ⟨i4, hi, hz0, hz1, hz2⟩ := info_parts info4
  have hbx := heap_alloc_new w (.cells #[.int .i64 p, .int .i64 b] 23)
  have hB0 := (Below.refl w.heap.size w).alloc (Nat.le_refl _) (.cells #[.int .i64 p, .int .i64 b] 23)
  have HBX := Lib.hid hbx
  have HB0 := Lib.hid hB0
  obtain ⟨⟨p0, p1, b0, b1⟩, n0, _⟩ := okA_yes hok
  have hr : rightG p b = true := rightG_of (by omega)
  have hN0 : 1 ≤ N := by omega
  have hnz : ((N : Int) == 0) = false := by simp; omega
  have hsl := shots_len hok
  rw [Int.toNat_natCast] at hsl
  have HOK := Lib.hid hok
  have HSL := Lib.hid hsl
  have hmm := @run_makeMap Try.prog
  clear hbx hB0 hok hsl
  go_enter Try.func5, Try.ntmps5
  go_wp2_with (first
    | (go_at_call 7; refine (first32 _).mono ?_; rintro e w1 ⟨rfl, hb1⟩; have hB := HB0.out.trans (hb1.mono (by simp)); have hx1 := block_later HBX.out hb1; have k0 := cell_of_row _ _ 0 _ _ _ hx1; have k1 := cell_of_row _ _ 1 _ _ _ hx1; simp only [List.getElem?_toArray, List.getElem?_cons_zero, List.getElem?_cons_succ] at k0 k1; clear hb1 hx1)
    | (go_at_call 10; refine (list_any _ _ _ _).mono ?_; rintro e w2 ⟨v, xs, rfl, hxs, hown, hG, hb2⟩; obtain ⟨A, cap, rfl, hrow⟩ := shrow_of hown hG; have hlen : xs.length = N := (by rw [← HSL.out, ← hxs, List.length_map]); have k0 := cell_later k0 hb2; have k1 := cell_later k1 hb2; have hB := below2 hB hb2; have HROW := Lib.hid hrow; have HXS := Lib.hid hxs; have HGX := Lib.hid hG; clear hb2 hown hxs hrow hG)
    | (go_at_call 12; refine (right_any _ _ _).mono ?_; rw [hr]; rintro e w3 ⟨rfl, hb3⟩; have k0 := cell_later k0 hb3; have k1 := cell_later k1 hb3; have hB := below2 hB hb3; have HB3 := Lib.hid hb3; clear hb3)
    | (at_make; refine wpList_make_row _ rfl _ _ 40 rfl 4 i4 (.bool false) Try.underlying40 hi hz0 hz1 rfl .i64 .i64 N rfl rfl (by rw [hz2]; omega) (by omega) ?_))
  have hRow3 := HROW.out.later HB3.out
  have hG3 : ∀ x ∈ xs, ShG x w3 := fun x hx => RefsAt.below (HGX.out x hx) HB3.out
  have hat : ∀ t sh, (shots N p b)[t]? = some sh → ∃ h : t < xs.length, xs[t].1 = sh := fun t sh h => by
    rw [← HXS.out, List.getElem?_map] at h
    obtain ⟨x, h1, h2⟩ := Option.map_eq_some_iff.1 h
    obtain ⟨h3, h4⟩ := List.getElem?_eq_some_iff.1 h1
    exact ⟨h3, by rw [h4]; exact h2⟩
  have hbA : Below w3.heap.size w3 ((w3.alloc (.cells (madeCells #[.bool false] N) 4)).alloc (.map #[] 0)) := ((Below.refl _ w3).alloc (Nat.le_refl _) _).alloc (by simp) _
  have hseen : Seen ((w3.alloc (.cells (madeCells #[.bool false] N) 4)).alloc (.map #[] 0)) w3.heap.size N (fun _ => false) := (seen_made w3 N).kept (World.grownBy_alloc _ _ none) (by simp)
  have hset := setz_made (w3.alloc (.cells (madeCells #[.bool false] N) 4))
  rw [World.size_alloc] at hset
  have HRW := Lib.hid hRow3
  have HG3 := Lib.hid hG3
  have HAT := Lib.hid hat
  have HBA := Lib.hid hbA
  have HSE := Lib.hid hseen
  have HSZ := Lib.hid hset
  have hlt3 := block_lt_of_cell k0
  simp only at hlt3
  clear hRow3 hG3 hat hbA hseen hset
  go_loopw [35] (fun i wr => ∃ t : Nat, t ≤ N ∧ i = .int .i64 t ∧ Hid (∃ f L, St N p b t f L ∧ Seen wr w3.heap.size N f ∧ SetZ wr (w3.heap.size + 1) t L) ∧ Hid (Below w3.heap.size w3 wr)) (fun i _ => (N - intOf i).toNat)
  case atStart => exact ⟨0, by omega, rfl, Lib.hid ⟨_, _, .inl ⟨rfl, fun _ => rfl, rfl⟩, HSE.out, HSZ.out⟩, HBA⟩
  case round =>
    clear HSE HSZ HBA k0
    obtain ⟨t, ht, rfl, hS, hBr⟩ := hrel
    by_cases hlt : t < N
    · obtain ⟨f, L, hst, hsn, hsz⟩ := hS.out
      obtain ⟨sh, L1, L', hnx⟩ := next_any HOK.out hst (by rw [HSL.out]; exact hlt)
      obtain ⟨htx, hsh⟩ := HAT.out t sh hnx.get
      obtain ⟨g, B, m, c, rfl, d0, d1, d2, d3, dv⟩ := ShRow.at HRW.out htx
      have hgx := HG3.out xs[t] (List.getElem_mem _)
      unfold ShG at hgx
      rw [hsh, dv] at hgx
      rw [hsh] at d0 d2 d3
      obtain ⟨M, hM⟩ : ∃ M : Nat, sh.num = M := ⟨sh.num.toNat, by have := hnx.num0; omega⟩
      have hMN : M < N := by have := hnx.num1; omega
      rw [hM] at d0
      obtain ⟨R, hR⟩ : ∃ R, R = sh.ret := ⟨_, rfl⟩
      rw [← hR] at d3
      have e0 := cell_later d0 hBr.out
      have e1 := cell_later d1 hBr.out
      have e2 := cell_later d2 hBr.out
      have e3 := cell_later d3 hBr.out
      have hf0 : f M = false := by have := hnx.fresh; rw [hM, Int.toNat_natCast] at this; exact this
      obtain ⟨s0, s1⟩ := hsn.cell hMN
      rw [hf0] at s0
      have hsl := hsz.lt
      have s2 : ∀ o, (wr.alloc o).cell? ⟨w3.heap.size, M, none⟩ = some (.bool false) := fun o => keep_alloc s0 o
      have s3 : ∀ o, (wr.alloc o).frozen? ⟨w3.heap.size, M, none⟩ = false := fun o => by
        rw [World.frozen?_of_block (w := wr) (Below.heap_alloc wr o w3.heap.size (by omega)) (a := ⟨w3.heap.size, M, none⟩)]; exact s1
      have ne1 : wr.heap.size ≠ w3.heap.size := by omega
      have ne2 : w3.heap.size ≠ wr.heap.size := by omega
      have i1 : (0 : Int) ≤ (t : Int) := by omega
      have i2 : (t : Int) < (N : Int) := by omega
      have i3 : (0 : Int) ≤ (M : Int) := by omega
      have i4 : (M : Int) < (N : Int) := by omega
      have HNX := Lib.hid hnx
      have HGR := Lib.hid hgx
      have HSN := Lib.hid hsn
      have HSZ := Lib.hid hsz
      have HM := Lib.hid hM
      have HR := Lib.hid hR
      clear d0 d1 d2 d3 dv hsh hnx hgx hsn hsz hM hR hst hf0 s0 s1
      have hd1 : decide ((M : Int) < 0) = false := by simp
      have hd2 : decide (N ≤ M) = false := by simp; omega
      go_wp2_with fail
      obtain ⟨w5, hw5⟩ : ∃ w5, w5 = (wr.alloc (.cells #[.int .i64 M, .slice B m c, .bool sh.kept, .int .i64 R] 32)).setCell ⟨w3.heap.size, M, none⟩ (.bool true) := ⟨_, rfl⟩
      have hbx5 : w5.heap[wr.heap.size]? = some (.cells #[.int .i64 M, .slice B m c, .bool sh.kept, .int .i64 R] 32 (0, 0)) := by
        rw [hw5, heap_setCell_other _ _ _ _ (by simp; omega)]; exact heap_alloc_new wr _
      have hset5 : SetZ w5 (w3.heap.size + 1) t L := by rw [hw5]; exact (HSZ.out.alloc _).kept (grown_set _ _ _ _) (by simp)
      have hseen5 : Seen w5 w3.heap.size N (fun i => f i || decide (i = M)) := by rw [hw5]; exact (HSN.out.kept (World.grownBy_alloc _ _ none) (by simp)).set
      have hb5 : Below w3.heap.size w3 w5 := by rw [hw5]; exact (hBr.out.alloc hBr.out.size _).setCell (p := ⟨w3.heap.size, M, none⟩) (Nat.le_refl _) _
      have hs5 : wr.heap.size < w5.heap.size := by rw [hw5]; simp
      rw [← hw5]
      obtain ⟨hml, g2, hB2, hrc⟩ := refs_at HGR.out
      have hm2 : m ≤ 2 := by rw [hml]; exact HNX.out.rlen
      have HBX5 := Lib.hid hbx5
      have HSET5 := Lib.hid hset5
      have HSEEN5 := Lib.hid hseen5
      have HB5 := Lib.hid hb5
      have HML := Lib.hid hml
      have HB2 := Lib.hid hB2
      have HRC := Lib.hid hrc
      clear hw5 hbx5 hset5 hseen5 hb5 hml hB2 hrc e0 e1 e2 e3 s2 s3 hd1 hd2 HSZ HSN HGR
      go_loop [62] (fun i => ∃ q : Nat, q ≤ m ∧ i = .int .i64 q) (fun i => (m - intOf i).toNat)
      case atStart => exact ⟨0, by omega, rfl⟩
      case round =>
        obtain ⟨q, hq, rfl⟩ := hrel
        by_cases hqm : q < m
        · obtain rfl : B = some ⟨g2, 0, none⟩ := by
            rcases HB2.out with h | h
            · omega
            · exact h
          have hql : q < sh.refs.length := by rw [← HML.out]; exact hqm
          have r0 := cell_later (HRC.out q hql) HB5.out
          obtain ⟨hrL, hr0, hr1⟩ := HNX.out.refs _ (List.getElem_mem hql)
          obtain ⟨V, hV⟩ : ∃ V, V = sh.refs[q] := ⟨_, rfl⟩
          rw [← hV] at r0 hrL hr0 hr1
          have hlk := HSET5.out.look (x := V) (wf_in (by omega) (by omega)) hrL
          have j1 : (0 : Int) ≤ (q : Int) := by omega
          have j2 : (q : Int) < (m : Int) := by omega
          clear hrL hV hql
          go_wp2
          go_round
          case rel => exact ⟨q + 1, by omega, by go_num⟩
          case measure => simp [intOf]; omega
        · have c0 := cell_of_row _ _ 0 _ _ _ HBX5.out
          have c2 := cell_of_row _ _ 2 _ _ _ HBX5.out
          have c3 := cell_of_row _ _ 3 _ _ _ HBX5.out
          simp only [List.getElem?_toArray, List.getElem?_cons_zero, List.getElem?_cons_succ] at c0 c2 c3
          have hst' : St N p b (t + 1) (fun i => f i || decide (i = M)) L' := by
            have := HNX.out.st
            rw [HM.out, Int.toNat_natCast] at this
            exact this
          have hfew := HNX.out.few
          have hret := HNX.out.ret
          have hkept := HNX.out.kept
          rw [HM.out] at hkept hret
          rw [← HR.out] at hret
          have HST := Lib.hid hst'
          clear hst'
          rcases hret with ⟨hR0, hL1⟩ | ⟨hR0, hR1, hrin, hRM, hL1⟩
          · rw [hR0] at c3
            rw [hL1] at hkept
            rcases hkept with ⟨hkt, hnot, hL'⟩ | ⟨hkt, hL'⟩
            · rw [hkt] at c2
              rw [hL', List.length_append, List.length_singleton] at hfew
              have HL := Lib.hid hL'
              clear hL1 hL' hR0 hkt
              go_wp2_with (first
                | (at_mapUpdate; refine wpList_setz_put rfl _ _ _ rfl _ t _ rfl HSET5.out (by unfold maxLen; omega) M rfl rfl (wf_in (by omega) (by omega)) hnot ?_; intro w7 hset7 hg7; have HSET7 := Lib.hid hset7; have HG7 := Lib.hid hg7; clear hset7 hg7)
                | (at_len; refine wpList_setz_len rfl _ rfl _ _ _ rfl HSET7.out ?_))
              refine ⟨⟨t + 1, by omega, by go_num, Lib.hid ⟨_, _, HST.out, HSEEN5.out.kept HG7.out (by simp), by rw [HL.out]; exact HSET7.out⟩, Lib.hid (HB5.out.grown HG7.out (by omega) (fun r e => by cases e; omega))⟩, by simp [intOf]; omega⟩
            · rw [hkt] at c2
              rw [hL'] at hfew
              have HL := Lib.hid hL'
              clear hL1 hL' hR0 hkt
              go_wp2_with (at_len; refine wpList_setz_len rfl _ rfl _ _ _ rfl HSET5.out ?_)
              refine ⟨⟨t + 1, by omega, by go_num, Lib.hid ⟨_, _, HST.out, HSEEN5.out, by rw [HL.out]; exact HSET5.out.mono (by omega)⟩, HB5⟩, by simp [intOf]; omega⟩
          · have hlk := HSET5.out.look (x := (M : Int) - R) (wf_in (by omega) (by omega)) hrin
            have HL1 := Lib.hid hL1
            rcases hkept with ⟨hkt, hnot, hL'⟩ | ⟨hkt, hL'⟩
            · rw [hkt] at HBX5
              rw [hL', List.length_append, List.length_singleton] at hfew
              have HL := Lib.hid hL'
              clear hL1 hL' hkt c2
              go_wp2_with (first
                | (at_delete; refine wpList_setz_del rfl _ _ rfl _ t L rfl HSET5.out HNX.out.nodup (M - R) rfl (wf_in (by omega) (by omega)) hrin ?_; intro w6 hset6 hg6; rw [← HL1.out] at hset6; have hbx6 := (hg6.block _ hs5 (by simp; omega)).trans HBX5.out; have v0 := cell_of_row _ _ 0 _ _ _ hbx6; have v2 := cell_of_row _ _ 2 _ _ _ hbx6; simp only [List.getElem?_toArray, List.getElem?_cons_zero, List.getElem?_cons_succ] at v0 v2; have HSET6 := Lib.hid hset6; have HG6 := Lib.hid hg6; clear hset6 hg6 hbx6)
                | (at_mapUpdate; refine wpList_setz_put rfl _ _ _ rfl _ t _ rfl HSET6.out (by unfold maxLen; omega) M rfl rfl (wf_in (by omega) (by omega)) hnot ?_; intro w7 hset7 hg7; have HSET7 := Lib.hid hset7; have HG7 := Lib.hid hg7; clear hset7 hg7)
                | (at_len; refine wpList_setz_len rfl _ rfl _ _ _ rfl HSET7.out ?_))
              refine ⟨⟨t + 1, by omega, by go_num, Lib.hid ⟨_, _, HST.out, (HSEEN5.out.kept HG6.out (by simp)).kept HG7.out (by simp), by rw [HL.out]; exact HSET7.out⟩, Lib.hid ((HB5.out.grown HG6.out (by omega) (fun r e => by cases e; omega)).grown HG7.out (by have := HG6.out.size; omega) (fun r e => by cases e; omega))⟩, by simp [intOf]; omega⟩
            · rw [hkt] at HBX5
              rw [hL'] at hfew
              have HL := Lib.hid hL'
              clear hL1 hL' hkt c2
              go_wp2_with (first
                | (at_delete; refine wpList_setz_del rfl _ _ rfl _ t L rfl HSET5.out HNX.out.nodup (M - R) rfl (wf_in (by omega) (by omega)) hrin ?_; intro w6 hset6 hg6; rw [← HL1.out] at hset6; have hbx6 := (hg6.block _ hs5 (by simp; omega)).trans HBX5.out; have v0 := cell_of_row _ _ 0 _ _ _ hbx6; have v2 := cell_of_row _ _ 2 _ _ _ hbx6; simp only [List.getElem?_toArray, List.getElem?_cons_zero, List.getElem?_cons_succ] at v0 v2; have HSET6 := Lib.hid hset6; have HG6 := Lib.hid hg6; clear hset6 hg6 hbx6)
                | (at_len; refine wpList_setz_len rfl _ rfl _ _ _ rfl HSET6.out ?_))
              refine ⟨⟨t + 1, by omega, by go_num, Lib.hid ⟨_, _, HST.out, HSEEN5.out.kept HG6.out (by simp), by rw [HL.out]; exact HSET6.out.mono (by omega)⟩, Lib.hid (HB5.out.grown HG6.out (by omega) (fun r e => by cases e; omega))⟩, by simp [intOf]; omega⟩
    · obtain rfl : t = N := by omega
      have hnx : numsX xs = (shots t p b).map (·.num) := by rw [← HXS.out, List.map_map]; rfl
      have hnb : ∀ x ∈ numsX xs, -1099511627776 ≤ x ∧ x ≤ 1099511627776 := fun x hx => by
        rw [hnx] at hx
        have := nums_bd HOK.out x hx
        omega
      have hr3 := HRW.out.later hBr.out
      obtain ⟨R, hR⟩ : ∃ R, R = delayI (numsX xs) xs.length := ⟨_, rfl⟩
      have hRb : R ≤ b := by
        have := delay_le HOK.out t (by rw [HSL.out]; exact Nat.le_refl _)
        rw [← hnx, ← hlen] at this
        rw [hR]; exact this
      have hR0 : 0 ≤ R := by rw [hR]; exact (delay_bd hnb (by omega) _).1
      have hd : ∀ w', Below wr.heap.size wr w' → Calls Try.prog 17 #[.slice A t cap] w' fun e w'' => e = .returned (.int .i64 R) ∧ Below w'.heap.size w' w'' := fun w' hb' => by
        have := delay_any xs A cap w' (hr3.later hb') (by omega) hnb
        rw [← hR, hlen] at this
        exact this
      have k4 := cell_later k1 hBr.out
      have hBw := Below.refl wr.heap.size wr
      have hB8 := hB.trans (hBr.out.mono hB.size)
      have HD := Lib.hid hd
      have HB8 := Lib.hid hB8
      have hl1 : R ≤ b + 1 := by omega
      have hl2 : R ≤ 8 := by omega
      have q1 : IntKind.i64.wrap (b + 1) = b + 1 := by rw [IntKind.wrap_i64]; omega
      have q2 : decide (R ≤ b + 1) = true := decide_eq_true hl1
      have q3 : decide (R < b + 1) = true := decide_eq_true (by omega)
      have q4 : (R == b + 1) = false := by simp; omega
      have q5 : decide (R ≤ 8) = true := decide_eq_true hl2
      have q6 : decide (R < 8) = true := decide_eq_true (by omega)
      have q7 : (R == 8) = false := by simp; omega
      clear hnx hnb hr3 hR hd hB8 k1 hB hS
      go_wp2_with fail
      go_region_held3 (fun w' => w'.cell? ⟨w.heap.size, 1, none⟩ = some (.int .i64 b) ∧ Below wr.heap.size wr w')
        (first
          | exact ⟨k4, hBw⟩
          | exact ⟨k4, hBw.drew⟩
          | go_keep)
        (first
          | (go_at_call 17; refine Calls.mono (HD.out _ ?_) ?_; (first | exact hBw | exact hBw.drew); rintro e w8 ⟨rfl, hb8⟩; have k4 := (hb8.cell (block_lt_of_cell k4)).trans k4; (first | have hBw := below2 hBw hb8 | have hBw := below2 hBw.drew hb8); clear hb8))
      go_wp2
      go_ret
      exact ⟨rfl, below2 HB8.out hBw⟩
end Go.Proofs.Ytmnkbcigjbiniaa.gopHolds
