/- The document's One. -/
import Derived.Test.YtbekkdlgibijdaaUnQ
namespace Go.Proofs.Ytbekkdlgibijdaa
open Go.RowKit

theorem BytesC.piece {w : World} {g off c n : Nat} {l : List UInt8} (h : BytesC w (.slice (some ⟨g, off, none⟩) n c) l) (i m : Nat) (hi : i + m ≤ l.length) : BytesC w (.slice (some ⟨g, off + i, none⟩) m (c - i)) (nextB l i m) := by
  obtain ⟨A, c', hv, hc, h⟩ := h.reads.piece i m hi
  have hv' := hv
  injection hv' with h1 h2 h3
  exact ⟨A, c', hv, hc, fun e => (by rw [← h1] at e; cases e), h⟩
/-- What One leaves. -/
def OnePost (w : World) (b : List UInt8) (at_ : Nat) (size : Int) (e : Ending) (w' : World) : Prop :=
  Below w.heap.size w w' ∧ ((oneE b at_ size ≠ 0 ∧ e = .returned (.tuple #[.agg z66, .int .i64 0, .int .i64 (oneE b at_ size)])) ∨
    (oneE b at_ size = 0 ∧ ∃ v, e = .returned (.tuple #[.agg #[.int .i64 (hCode (nextB b at_ 13) : Nat), v], .int .i64 (unitN (nextB b at_ 13) : Nat), .int .i64 0]) ∧ BytesAt w' w.heap.size v (nextB b (at_ + 13) (unitN (nextB b at_ 13) - 13))))
set_option maxRecDepth 20000 in
set_option maxHeartbeats 4000000 in
theorem one_any (w : World) (A : Option Addr) (c : Nat) (b : List UInt8) (at_ : Nat) (size : Int) (h : BytesC w (.slice A b.length c) b) (hl : b.length ≤ 2147483647) (ha : at_ ≤ b.length) :
    Calls Try.prog 37 #[.slice A b.length c, .int .i64 (at_ : Nat), .int .i64 size] w (OnePost w b at_ size) := by
  obtain ⟨R, hR⟩ : ∃ R, R = OnePost w b at_ size := ⟨_, rfl⟩
  have hpost : ∀ (E : Int) (w' : World), E = oneE b at_ size → E ≠ 0 → Below w.heap.size w w' → R (.returned (.tuple #[.agg z66, .int .i64 0, .int .i64 E])) w' := fun E w' hE h0 hb => by
    rw [hR, hE]
    exact ⟨hb, .inl ⟨by rw [← hE]; exact h0, rfl⟩⟩
  have hpost2 : ∀ (v : Value) (w' : World), oneE b at_ size = 0 → Below w.heap.size w w' → BytesAt w' w.heap.size v (nextB b (at_ + 13) (unitN (nextB b at_ 13) - 13)) → R (.returned (.tuple #[.agg #[.int .i64 (hCode (nextB b at_ 13) : Nat), v], .int .i64 (unitN (nextB b at_ 13) : Nat), .int .i64 0])) w' := fun v w' hE hb hv => by
    rw [hR]
    exact ⟨hb, .inr ⟨hE, v, rfl, hv⟩⟩
  rw [← hR]
  have HP := Lib.hid (And.intro hpost hpost2)
  clear hpost hpost2 hR
  have hB := (Below.refl w.heap.size w).alloc (Nat.le_refl _) (.cells z66 66)
  have hrb := heap_alloc_new w (.cells z66 66)
  have HB := Lib.hid hB
  have HRB := Lib.hid hrb
  have HV := Lib.hid (h.reads.later hB)
  have HC := Lib.hid h
  have hl9 : (b.length : Int) ≤ 2147483647 := by omega
  have ha9 : (at_ : Int) ≤ (b.length : Int) := by omega
  have hcap : b.length ≤ c := by obtain ⟨_, _, hv, hc, _⟩ := h; injection hv with _ _ h3; subst h3; exact hc
  clear h hB hrb
  by_cases h13 : b.length < at_ + 13
  · have hE : (30 : Int) = oneE b at_ size := by unfold oneE; rw [if_pos h13]
    have HE := Lib.hid hE
    have h13' : (b.length : Int) - (at_ : Int) < 13 := by omega
    clear h13 hE
    go_enter Try.func37, Try.ntmps37
    go_wp2_with fail
    exact bodyPost_ret (results_cell2 Try.results37 _ _ w.heap.size 66 z66 _ _ rfl HRB.out Try.underlying66 rfl info66) rfl (HP.out.1 30 _ HE.out (by decide) HB.out)
  obtain ⟨g, off, hA⟩ : ∃ g off, A = some ⟨g, off, none⟩ := by
    obtain ⟨_, _, hv, _, _, g, off, hA, _⟩ := HC.out
    injection hv with h1 _ _
    rcases hA with h | h
    · rw [h] at h13; simp at h13
    · exact ⟨g, off, h1.trans h⟩
  subst hA
  have h13' : ¬ (b.length : Int) - (at_ : Int) < 13 := by omega
  have hs4 := (HV.out.piece at_ 4 (by omega)).str
  have hs9 := fun V (hV : Below w.heap.size w V) => ((HC.out.reads.later hV).piece (at_ + 4) 9 (by omega)).str
  obtain ⟨S, hS⟩ : ∃ S, S = nextB b at_ 4 := ⟨_, rfl⟩
  rw [← hS] at hs4
  have r1 : IntKind.i64.wrap ((at_ : Int) + 4) = (at_ : Int) + 4 := by rw [IntKind.wrap_i64]; omega
  have HS9 := Lib.hid hs9
  have HS := Lib.hid hS
  clear hs9 hS r1
  obtain ⟨H, hH⟩ : ∃ H, H = nextB b at_ 13 := ⟨_, rfl⟩
  have hSH : nextB H 0 4 = S := by rw [hH, HS.out, nextB_nextB (by omega)]; rfl
  have hone : oneE b at_ size = (if headE H size ≠ 0 then headE H size else if b.length < at_ + unitN H then 30 else 0) := by unfold oneE; rw [if_neg h13, ← hH]
  by_cases hm : S = [66, 66, 67, 68]
  · have hn : (S == [66, 66, 67, 68]) = true := by simpa using hm
    have hh : headE H size = chkI (hCode H) (hNext H) (hPrev H) size := by unfold headE; rw [if_pos (show nextB H 0 4 = markB from hSH.trans hm)]
    rw [hh] at hone
    obtain ⟨T, hT⟩ : ∃ T, T = nextB b (at_ + 4) 9 := ⟨_, rfl⟩
    have hT9 : T.length = 9 := by rw [hT]; exact nextB_len (by omega)
    have e1 : hCode H = numB ((T.drop 0).take 1) := by rw [hH, hT]; unfold hCode; rw [nextB_nextB (by omega)]; show _ = numB (nextB (nextB b (at_ + 4) 9) 0 1); rw [nextB_nextB (by omega)]
    have e2 : hNext H = numB ((T.drop 1).take 4) := by rw [hH, hT]; unfold hNext; rw [nextB_nextB (by omega)]; show _ = numB (nextB (nextB b (at_ + 4) 9) 1 4); rw [nextB_nextB (by omega)]
    have e3 : hPrev H = numB ((T.drop 5).take 4) := by rw [hH, hT]; unfold hPrev; rw [nextB_nextB (by omega)]; show _ = numB (nextB (nextB b (at_ + 4) 9) 5 4); rw [nextB_nextB (by omega)]
    have hcd4 := hCode_lt H
    have hnx4 := hNext_lt H
    have hUN : unitN H = max (hNext H) 13 := rfl
    have hpost2 := HP.out.2
    rw [← hH] at hpost2
    obtain ⟨cd, hcd⟩ : ∃ x, x = hCode H := ⟨_, rfl⟩
    obtain ⟨nx, hnx⟩ : ∃ x, x = hNext H := ⟨_, rfl⟩
    obtain ⟨pv, hpv⟩ : ∃ x, x = hPrev H := ⟨_, rfl⟩
    obtain ⟨UN, hun⟩ : ∃ x, x = unitN H := ⟨_, rfl⟩
    rw [← hcd, ← hnx, ← hpv, ← hun] at hone
    rw [← hcd] at e1 hcd4
    rw [← hnx] at e2 hnx4 hUN
    rw [← hpv] at e3
    rw [← hun] at hUN
    rw [← hcd, ← hun] at hpost2
    have hs9 := HS9.out (w.alloc (.cells z66 66)) HB.out
    rw [← hT] at hs9
    have hb2 := (Below.refl (w.alloc (.cells z66 66)).heap.size (w.alloc (.cells z66 66))).alloc (Nat.le_refl _) (.cells #[.string ⟨T.toArray⟩, .int .i64 0] 29)
    have hRC : RCur ((w.alloc (.cells z66 66)).alloc (.cells #[.string ⟨T.toArray⟩, .int .i64 0] 29)) (w.heap.size + 1) (T.drop 0) 0 := by
      have := heap_alloc_new (w.alloc (.cells z66 66)) (.cells #[.string ⟨T.toArray⟩, .int .i64 0] 29)
      rw [World.size_alloc] at this
      exact this
    have HRC := Lib.hid hRC
    have HRB2 := Lib.hid (block_later HRB.out hb2)
    have HB2 := Lib.hid (HB.out.trans (hb2.mono (by simp)))
    have HE1 := Lib.hid (And.intro e1 (And.intro e2 (And.intro e3 hT9)))
    have HONE := Lib.hid (And.intro hone hUN)
    have HP2 := Lib.hid hpost2
    clear hm hh hSH hone e1 e2 e3 hcd hnx hpv hun hH hT hT9 hb2 hRC hUN hpost2
    go_enter Try.func37, Try.ntmps37
    go_wp2_with fail
    have hT9 : T.length = 9 := HE1.out.2.2.2
    refine (num_yes 1 HRC.out (by omega) (by omega) (by decide)).mono ?_
    rw [← HE1.out.1]
    rintro e W3 ⟨rfl, hrc, hg⟩
    have HRC3 := Lib.hid hrc
    have HRB3 := Lib.hid ((hg.block _ (block_lt HRB2.out) (fun e => by injection e; omega)).trans HRB2.out)
    have HB3 := Lib.hid (below_grown2 HB2.out hg HB2.out.size (by omega))
    clear hrc hg hs4 hs9
    have HT9 := Lib.hid hT9
    clear hT9
    go_wp2_with fail
    have hT9 : T.length = 9 := HT9.out
    refine (num_yes 4 HRC3.out (by omega) (by omega) (by decide)).mono ?_
    rw [← HE1.out.2.1]
    rintro e W4 ⟨rfl, hrc, hg⟩
    have HRC4 := Lib.hid hrc
    have HRB4 := Lib.hid ((hg.block _ (block_lt HRB3.out) (fun e => by injection e; omega)).trans HRB3.out)
    have HB4 := Lib.hid (below_grown2 HB3.out hg HB3.out.size (by omega))
    clear hrc hg hT9
    go_wp2_with fail
    have hT9 : T.length = 9 := HT9.out
    refine (num_yes 4 HRC4.out (by omega) (by omega) (by decide)).mono ?_
    rw [← HE1.out.2.2.1]
    rintro e W5 ⟨rfl, hrc, hg⟩
    have HRB5 := Lib.hid ((hg.block _ (block_lt HRB4.out) (fun e => by injection e; omega)).trans HRB4.out)
    have HB5 := Lib.hid (below_grown2 HB4.out hg HB4.out.size (by omega))
    clear hrc hg hT9
    have hKn := fun V => refKnown_any (cd : Nat) V
    obtain ⟨C, hC⟩ : ∃ C, C = chkI cd nx pv size := ⟨_, rfl⟩
    rw [← hC] at HONE
    unfold chkI at hC
    cases hkn : knownI (cd : Nat) with
    | false =>
      rw [hkn] at hKn
      rw [if_pos hkn] at hC
      have HKN := Lib.hid hKn
      have hE : (272 : Int) = oneE b at_ size := by rw [HONE.out.1, hC]; rfl
      have HE := Lib.hid hE
      clear hkn hKn hC hE
      go_wp2_with (first
        | (go_at_call 30; refine (HKN.out _).mono ?_; rintro e W6 ⟨rfl, hb6⟩; have HRB6 := Lib.hid (block_later HRB5.out hb6); have HB6 := Lib.hid (HB5.out.trans (hb6.mono HB5.out.size)); clear hb6)
        | (refine wpList_store_row rfl 66 _ _ rfl _ z66 rfl rfl _ _ HRB6.out info66 rfl (all2 _ _ _ _) ?_))
      exact bodyPost_ret (results_cell2 Try.results37 _ _ w.heap.size 66 z66 _ _ rfl (setRow_heap _ _ _ _ _ _ HRB6.out) Try.underlying66 rfl info66) rfl (HP.out.1 272 _ HE.out (by decide) (HB6.out.trans (below_setRow _ _ _ (Nat.le_refl _))))
    | true =>
      rw [hkn] at hKn
      rw [if_neg (by rw [hkn]; decide)] at hC
      have HKN := Lib.hid hKn
      clear hkn hKn
      by_cases hp : (pv : Int) = size
      · rw [if_neg (by simpa using hp)] at hC
        have p0 : ((pv : Int) != size) = false := by simp [hp]
        by_cases h16 : cd = 16
        · by_cases h0 : nx = 0
          · subst h16
            subst h0
            rw [if_neg (by simp), if_neg (by simp)] at hC
            obtain ⟨o1, o2⟩ := HONE.out
            rw [hC] at o1
            obtain rfl : UN = 13 := by omega
            rw [if_neg (by decide), if_neg (by omega)] at o1
            have HO := Lib.hid o1
            clear hp hC o1 o2 HONE
            by_cases hcc : c = at_ + 13
            · subst hcc
              go_wp2_with (first
                | (go_at_call 30; refine (HKN.out _).mono ?_; rintro e W6 ⟨rfl, hb6⟩; have HRB6 := Lib.hid (block_later (block_later HRB5.out hb6) ((Below.refl _ W6).alloc (Nat.le_refl _) (.cells #[] 5))); have HB6 := Lib.hid ((HB5.out.trans (hb6.mono HB5.out.size)).alloc (by have := hb6.size; have := HB5.out.size; omega) (.cells #[] 5)); clear hb6)
                | (refine wpList_store_row rfl 66 _ _ rfl _ #[.int .i64 16, .slice (some ⟨W6.heap.size, 0, none⟩) 0 0] rfl rfl _ _ HRB6.out info66 rfl (all2 _ _ _ _) ?_))
              refine bodyPost_ret (results_cell2 Try.results37 _ _ w.heap.size 66 #[.int .i64 16, .slice (some ⟨W6.heap.size, 0, none⟩) 0 0] _ _ rfl (setRow_heap _ _ _ _ _ _ HRB6.out) Try.underlying66 rfl info66) rfl ?_
              have hfin := HP2.out (.slice (some ⟨W6.heap.size, 0, none⟩) 0 0) _ HO.out (HB6.out.trans (below_setRow _ w.heap.size #[.int .i64 16, .slice (some ⟨W6.heap.size, 0, none⟩) 0 0] (Nat.le_refl _))) ⟨some ⟨W6.heap.size, 0, none⟩, 0, by simp [nextB], by simp [nextB], .inl (by simp [nextB])⟩
              exact hfin
            · have hcc2 : ¬ (c : Int) = (at_ : Int) + 13 := by omega
              have hcc3 : at_ + 13 < c := by omega
              go_wp2_with (first
                | (go_at_call 30; refine (HKN.out _).mono ?_; rintro e W6 ⟨rfl, hb6⟩; have HRB6 := Lib.hid (block_later (block_later HRB5.out hb6) ((Below.refl _ W6).alloc (Nat.le_refl _) (.cells #[] 5))); have HB6 := Lib.hid ((HB5.out.trans (hb6.mono HB5.out.size)).alloc (by have := hb6.size; have := HB5.out.size; omega) (.cells #[] 5)); clear hb6)
                | (refine wpList_store_row rfl 66 _ _ rfl _ #[.int .i64 16, .slice (some ⟨W6.heap.size, 0, none⟩) 0 0] rfl rfl _ _ HRB6.out info66 rfl (all2 _ _ _ _) ?_))
              refine bodyPost_ret (results_cell2 Try.results37 _ _ w.heap.size 66 #[.int .i64 16, .slice (some ⟨W6.heap.size, 0, none⟩) 0 0] _ _ rfl (setRow_heap _ _ _ _ _ _ HRB6.out) Try.underlying66 rfl info66) rfl ?_
              have hfin := HP2.out (.slice (some ⟨W6.heap.size, 0, none⟩) 0 0) _ HO.out (HB6.out.trans (below_setRow _ w.heap.size #[.int .i64 16, .slice (some ⟨W6.heap.size, 0, none⟩) 0 0] (Nat.le_refl _))) ⟨some ⟨W6.heap.size, 0, none⟩, 0, by simp [nextB], by simp [nextB], .inl (by simp [nextB])⟩
              exact hfin
          · rw [if_pos ⟨h16, h0⟩] at hC
            subst h16
            have n0 : ((nx : Int) != 0) = true := by simp [h0]
            have hE : (271 : Int) = oneE b at_ size := by rw [HONE.out.1, hC]; rfl
            have HE := Lib.hid hE

            clear hp hC h0 hE
            go_wp2_with (first
              | (go_at_call 30; refine (HKN.out _).mono ?_; rintro e W6 ⟨rfl, hb6⟩; have HRB6 := Lib.hid (block_later HRB5.out hb6); have HB6 := Lib.hid (HB5.out.trans (hb6.mono HB5.out.size)); clear hb6)
              | (refine wpList_store_row rfl 66 _ _ rfl _ z66 rfl rfl _ _ HRB6.out info66 rfl (all2 _ _ _ _) ?_))
            exact bodyPost_ret (results_cell2 Try.results37 _ _ w.heap.size 66 z66 _ _ rfl (setRow_heap _ _ _ _ _ _ HRB6.out) Try.underlying66 rfl info66) rfl (HP.out.1 271 _ HE.out (by decide) (HB6.out.trans (below_setRow _ _ _ (Nat.le_refl _))))
        · rw [if_neg (fun h => h16 h.1)] at hC
          have c0 : ((cd : Int) == 16) = false := by simp; omega
          have c1 : ((cd : Int) != 16) = true := by simp; omega
          by_cases h0 : nx < 13
          · rw [if_pos ⟨h16, h0⟩] at hC
            have n0 : (nx : Int) < 13 := by omega
            have hE : (271 : Int) = oneE b at_ size := by rw [HONE.out.1, hC]; rfl
            have HE := Lib.hid hE

            clear hp hC h0 hE h16
            go_wp2_with (first
              | (go_at_call 30; refine (HKN.out _).mono ?_; rintro e W6 ⟨rfl, hb6⟩; have HRB6 := Lib.hid (block_later HRB5.out hb6); have HB6 := Lib.hid (HB5.out.trans (hb6.mono HB5.out.size)); clear hb6)
              | (refine wpList_store_row rfl 66 _ _ rfl _ z66 rfl rfl _ _ HRB6.out info66 rfl (all2 _ _ _ _) ?_))
            exact bodyPost_ret (results_cell2 Try.results37 _ _ w.heap.size 66 z66 _ _ rfl (setRow_heap _ _ _ _ _ _ HRB6.out) Try.underlying66 rfl info66) rfl (HP.out.1 271 _ HE.out (by decide) (HB6.out.trans (below_setRow _ _ _ (Nat.le_refl _))))
          · rw [if_neg (fun h => h0 h.2)] at hC
            have n0 : ¬ (nx : Int) < 13 := by omega
            obtain ⟨o1, o2⟩ := HONE.out
            rw [hC] at o1
            obtain rfl : UN = nx := by omega
            rw [if_neg (by decide)] at o1
            by_cases hlt : b.length < at_ + UN
            · rw [if_pos hlt] at o1
              have HE := Lib.hid o1.symm
              have l0 : (b.length : Int) - (at_ : Int) < (UN : Int) := by omega
              clear hp hC h0 h16 o1 o2 HONE hlt
              go_wp2_with (first
                | (go_at_call 30; refine (HKN.out _).mono ?_; rintro e W6 ⟨rfl, hb6⟩; have HRB6 := Lib.hid (block_later HRB5.out hb6); have HB6 := Lib.hid (HB5.out.trans (hb6.mono HB5.out.size)); clear hb6)
                | (refine wpList_store_row rfl 66 _ _ rfl _ z66 rfl rfl _ _ HRB6.out info66 rfl (all2 _ _ _ _) ?_))
              exact bodyPost_ret (results_cell2 Try.results37 _ _ w.heap.size 66 z66 _ _ rfl (setRow_heap _ _ _ _ _ _ HRB6.out) Try.underlying66 rfl info66) rfl (HP.out.1 30 _ HE.out (by decide) (HB6.out.trans (below_setRow _ _ _ (Nat.le_refl _))))
            · rw [if_neg hlt] at o1
              have HO := Lib.hid o1
              have l0 : ¬ (b.length : Int) - (at_ : Int) < (UN : Int) := by omega
              have l1 : (at_ : Int) + (UN : Int) ≤ (b.length : Int) := by omega
              have hUN13 : 13 ≤ UN := by omega
              have hend : at_ + UN ≤ b.length := by omega
              obtain ⟨D, rfl⟩ : ∃ D, UN = 13 + D := ⟨UN - 13, by omega⟩
              have HEND := Lib.hid hend
              clear hp hC h0 h16 o1 o2 HONE hlt hUN13 hend
              by_cases hcc : c = at_ + 13
              · subst hcc
                obtain rfl : D = 0 := by have := HEND.out; omega
                go_wp2_with (first
                  | (go_at_call 30; refine (HKN.out _).mono ?_; rintro e W6 ⟨rfl, hb6⟩; have HRB6 := Lib.hid (block_later (block_later HRB5.out hb6) ((Below.refl _ W6).alloc (Nat.le_refl _) (.cells #[] 5))); have HB6 := Lib.hid ((HB5.out.trans (hb6.mono HB5.out.size)).alloc (by have := hb6.size; have := HB5.out.size; omega) (.cells #[] 5)); clear hb6)
                  | (refine wpList_store_row rfl 66 _ _ rfl _ #[.int .i64 (cd : Nat), .slice (some ⟨W6.heap.size, 0, none⟩) 0 0] rfl rfl _ _ HRB6.out info66 rfl (all2 _ _ _ _) ?_))
                refine bodyPost_ret (results_cell2 Try.results37 _ _ w.heap.size 66 #[.int .i64 (cd : Nat), .slice (some ⟨W6.heap.size, 0, none⟩) 0 0] _ _ rfl (setRow_heap _ _ _ _ _ _ HRB6.out) Try.underlying66 rfl info66) rfl ?_
                have hfin := HP2.out (.slice (some ⟨W6.heap.size, 0, none⟩) 0 0) _ HO.out (HB6.out.trans (below_setRow _ w.heap.size #[.int .i64 (cd : Nat), .slice (some ⟨W6.heap.size, 0, none⟩) 0 0] (Nat.le_refl _))) ⟨some ⟨W6.heap.size, 0, none⟩, 0, by simp [nextB], by simp [nextB], .inl (by simp [nextB])⟩
                exact hfin
              · have hcc2 : ¬ (c : Int) = (at_ : Int) + 13 := by omega
                have hcc3 : at_ + 13 < c := by have := HEND.out; omega
                have HXV := Lib.hid (show (nextB b (at_ + 13) D).length = D from nextB_len (by have := HEND.out; omega))
                have HPC := Lib.hid (show ∀ V, Below w.heap.size w V → BytesC V (.slice (some ⟨g, off + (at_ + 13), none⟩) (at_ + (13 + D) - (at_ + 13)) (c - (at_ + 13))) (nextB b (at_ + 13) D) from fun V hV => by
                  rw [show at_ + (13 + D) - (at_ + 13) = D by omega]
                  exact (HC.out.later hV).piece (at_ + 13) D (by have := HEND.out; omega))
                go_wp2_with (first
                  | (go_at_call 30; refine (HKN.out _).mono ?_; rintro e W6 ⟨rfl, hb6⟩; have HRB6 := Lib.hid (block_later HRB5.out hb6); have HB6 := Lib.hid (HB5.out.trans (hb6.mono HB5.out.size)); clear hb6)
                  | (at_builtin; refine wpList_append_bytes rfl _ _ rfl W6.heap.size _ 0 [] rfl (own_empty W6 _ (Nat.le_refl _)) _ (nextB b (at_ + 13) D) rfl (HPC.out _ (HB6.out.alloc HB6.out.size _)) (by rw [HXV.out]; have := HEND.out; omega) (by simp) ?_; intro v7 W7 hown hgrow; have hb7 : Below W6.heap.size W6 W7 := ((Below.refl W6.heap.size W6).alloc (Nat.le_refl _) _).grown hgrow (by simp) (fun k hk => by cases hk; exact Nat.le_refl _); have HBY := Lib.hid (bytes_of_own (show W7.ownsRow W6.heap.size 5 1 v7 (nextB b (at_ + 13) D).length ((nextB b (at_ + 13) D).map bv) by simpa using hown)); have HRB7 := Lib.hid (block_later HRB6.out hb7); have HB7 := Lib.hid (HB6.out.trans (hb7.mono HB6.out.size)); obtain ⟨A7, m7, c7, rfl⟩ := bytes_form HBY.out; clear hown hgrow hb7)
                  | (refine wpList_store_row rfl 66 _ _ rfl _ #[.int .i64 (cd : Nat), .slice A7 m7 c7] rfl rfl _ _ HRB7.out info66 rfl (all2 _ _ _ _) ?_))
                refine bodyPost_ret (results_cell2 Try.results37 _ _ w.heap.size 66 #[.int .i64 (cd : Nat), .slice A7 m7 c7] _ _ rfl (setRow_heap _ _ _ _ _ _ HRB7.out) Try.underlying66 rfl info66) rfl ?_
                have hfin := HP2.out (.slice A7 m7 c7) _ HO.out (HB7.out.trans (below_setRow W7 w.heap.size #[.int .i64 (cd : Nat), .slice A7 m7 c7] (Nat.le_refl _))) (by
                  rw [show 13 + D - 13 = D by omega]
                  exact (HBY.out.mono HB6.out.size).kept (kept_row (ts := [66]) HRB7.out (by decide) _) (by decide))
                exact hfin
      · rw [if_pos (by simpa using hp)] at hC
        have p0 : ((pv : Int) != size) = true := by simp [hp]
        have hE : (271 : Int) = oneE b at_ size := by rw [HONE.out.1, hC]; rfl
        have HE := Lib.hid hE

        clear hp hC hE
        go_wp2_with (first
          | (go_at_call 30; refine (HKN.out _).mono ?_; rintro e W6 ⟨rfl, hb6⟩; have HRB6 := Lib.hid (block_later HRB5.out hb6); have HB6 := Lib.hid (HB5.out.trans (hb6.mono HB5.out.size)); clear hb6)
          | (refine wpList_store_row rfl 66 _ _ rfl _ z66 rfl rfl _ _ HRB6.out info66 rfl (all2 _ _ _ _) ?_))
        exact bodyPost_ret (results_cell2 Try.results37 _ _ w.heap.size 66 z66 _ _ rfl (setRow_heap _ _ _ _ _ _ HRB6.out) Try.underlying66 rfl info66) rfl (HP.out.1 271 _ HE.out (by decide) (HB6.out.trans (below_setRow _ _ _ (Nat.le_refl _))))
  · have hn : (S == [66, 66, 67, 68]) = false := by simpa using hm
    have hE : (270 : Int) = oneE b at_ size := by
      have hh : headE H size = 270 := by unfold headE; rw [if_neg (by rw [hSH]; exact hm)]
      rw [hone, hh]; rfl
    have HE := Lib.hid hE
    clear hm hE hSH hone hH
    go_enter Try.func37, Try.ntmps37
    go_wp2_with fail
    exact bodyPost_ret (results_cell2 Try.results37 _ _ w.heap.size 66 z66 _ _ rfl HRB.out Try.underlying66 rfl info66) rfl (HP.out.1 270 _ HE.out (by decide) HB.out)
end Go.Proofs.Ytbekkdlgibijdaa
