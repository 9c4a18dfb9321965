/- A walker's look at the unit ahead. -/
import Derived.Test.YtbekkdlgibijdaaUnC
import Derived.Deep.RegionHeld3
namespace Go.Proofs.Ytbekkdlgibijdaa
open Go.RowKit

theorem info87 : (Try.prog.info? 87).map (·.size) = some 2 := by kernel_rfl
/-- what a look tells -/
def lookV (E : Int) (H : List UInt8) : Value := if E = 0 then .tuple #[.agg #[.int .i64 (hCode H : Nat), .int .i64 (hNext H : Nat), .int .i64 (hPrev H : Nat)], .int .i64 (unitN H : Nat), .int .i64 0] else .tuple #[.agg #[.int .i64 0, .int .i64 0, .int .i64 0], .int .i64 0, .int .i64 E]
theorem lookV_zero (H : List UInt8) : lookV 0 H = .tuple #[.agg #[.int .i64 (hCode H : Nat), .int .i64 (hNext H : Nat), .int .i64 (hPrev H : Nat)], .int .i64 (unitN H : Nat), .int .i64 0] := rfl
theorem lookV_ne {E : Int} (h : E ≠ 0) (H : List UInt8) : lookV E H = .tuple #[.agg #[.int .i64 0, .int .i64 0, .int .i64 0], .int .i64 0, .int .i64 E] := if_neg h
abbrev z95 : Array Value := #[.int .i64 0, .int .i64 0, .int .i64 0]
theorem Cur.copied {w : World} {lo : Nat} {b : List UInt8} {at_ : Nat} {v : Value} (hb : BytesAt w lo v b) (hl : at_ ≤ b.length) : Cur (w.alloc (.cells #[v, .int .i64 (at_ : Nat)] 87)) lo w.heap.size b at_ :=
  ⟨v, heap_alloc_new _ _, hb.later ((Below.refl _ w).alloc (Nat.le_refl _) _), hl⟩

theorem own_some {w : World} {base n : Nat} {v : Value} {xs : List Value} (h : w.ownsRow base 5 1 v n xs) (hn : n ≠ 0) : ∃ g cap, v = .slice (some ⟨g, 0, none⟩) n cap := by
  rcases h.2 with ⟨_, h0⟩ | ⟨g, cap, cur, hv, _⟩
  · exact absurd h0 hn
  · exact ⟨g, cap, hv⟩
/-- while a walker looks: itself, its cursor, the result's block -/
structure LkSt (w V : World) (wb cb lo : Nat) (size : Int) (b : List UInt8) (at_ : Nat) : Prop where
  wk : WkAt V wb cb size false
  cur : Cur V lo cb b at_
  rb : V.heap[w.heap.size]? = some (.cells z95 95 (0, 0))
  below : Below w.heap.size w V
  n1 : cb < w.heap.size
theorem LkSt.later {w V V' : World} {wb cb lo at_ : Nat} {size : Int} {b : List UInt8} (h : LkSt w V wb cb lo size b at_) (hb : Below V.heap.size V V') : LkSt w V' wb cb lo size b at_ :=
  ⟨h.wk.later hb, h.cur.later hb, block_later h.rb hb, h.below.trans (hb.mono h.below.size), h.n1⟩
theorem LkSt.grown {w V V' : World} {wb cb lo pk at_ k : Nat} {size : Int} {b b' : List UInt8} {lo' : Nat} (h : LkSt w V wb cb lo size b at_) (hp : Cur V lo' pk b' k) (hg : V.grownBy V' (some pk)) (hn : w.heap.size < pk) : LkSt w V' wb cb lo size b at_ := by
  obtain ⟨cv, hbox, _, _⟩ := hp
  refine ⟨(hg.block wb (block_lt h.wk) (fun e => ?_)).trans h.wk, h.cur.grown hg (by have := h.n1; omega) (.inr ⟨_, 87, _, hbox, by decide⟩), (hg.block _ (block_lt h.rb) (fun e => by cases e; omega)).trans h.rb, below_grown2 h.below hg h.below.size (by omega), h.n1⟩
  cases e
  have := h.wk
  unfold WkAt at this
  unfold CurBox at hbox
  rw [this] at hbox
  cases hbox
theorem LkSt.row {w V : World} {wb cb lo at_ : Nat} {size : Int} {b : List UInt8} (h : LkSt w V wb cb lo size b at_) (cs : Array Value) : (V.setRow w.heap.size cs).heap[w.heap.size]? = some (.cells cs 95 (0, 0)) ∧ Below w.heap.size w (V.setRow w.heap.size cs) :=
  ⟨setRow_heap _ _ _ _ _ _ h.rb, h.below.trans (below_setRow _ _ _ (Nat.le_refl _))⟩
set_option maxRecDepth 4000 in
set_option maxHeartbeats 2000000 in
theorem look_any {w : World} {wb cb lo : Nat} {size : Int} {b : List UInt8} {at_ : Nat} (h : WkAt w wb cb size false) (hc : Cur w lo cb b at_) (hl : b.length ≤ 4294967296) :
    Calls Try.prog 49 #[.pointer (some ⟨wb, 0, none⟩)] w fun e w' => e = .returned (lookV (oneE b at_ size) (nextB b at_ 13)) ∧ Below w.heap.size w w' := by
  obtain ⟨H, hH⟩ : ∃ H, H = nextB b at_ 13 := ⟨_, rfl⟩
  obtain ⟨E, hE⟩ : ∃ E, E = oneE b at_ size := ⟨_, rfl⟩
  rw [← hE, ← hH]
  unfold oneE at hE
  rw [← hH] at hE
  have HE := Lib.hid hE
  have HH := Lib.hid hH
  clear hE hH
  have hB := (Below.refl w.heap.size w).alloc (Nat.le_refl _) (.cells z95 95)
  have hR := heap_alloc_new w (.cells z95 95)
  have hW := h.later hB
  have e2 := cell_of_row _ _ 2 _ _ _ hW
  have e0 := cell_of_row _ _ 0 _ _ _ hW
  have hC := hc.later hB
  obtain ⟨cv, hbox, hby, hle⟩ := hC
  have HBX := Lib.hid hbox
  have hC1 := Cur.copied hby hle
  have hB1 := hB.alloc (by simp) (.cells #[cv, .int .i64 (at_ : Nat)] 87)
  have hW1 := hW.later ((Below.refl _ (w.alloc (.cells z95 95))).alloc (Nat.le_refl _) (.cells #[cv, .int .i64 (at_ : Nat)] 87))
  have hR1 := block_later hR ((Below.refl _ (w.alloc (.cells z95 95))).alloc (Nat.le_refl _) (.cells #[cv, .int .i64 (at_ : Nat)] 87))
  have hc1 : WkAt w wb cb size false ∧ Cur w lo cb b at_ := ⟨h, hc⟩
  obtain ⟨A, c, hcv, _, _⟩ := hby
  subst hcv
  have H0 := Lib.hid hc1
  have HC1 := Lib.hid hC1
  have HB1 := Lib.hid hB1
  have HW1 := Lib.hid hW1
  have HR1 := Lib.hid hR1
  clear hB hR hW hC1 hB1 hW1 hbox h hc hR1 hc1
  go_enter Try.func49, Try.ntmps49
  go_wp2_with (first
    | (refine wpList_load_row rfl 87 _ rfl _ rfl _ _ _ _ HBX.out Try.underlying87 rfl info87 ?_))
  have hS1 : LkSt w ((w.alloc (.cells z95 95)).alloc (.cells #[.slice A b.length c, .int .i64 (at_ : Nat)] 87)) wb cb lo size b at_ := by
    have hlt := H0.out.2.lt
    exact ⟨HW1.out, (H0.out.2.later ((Below.refl _ w).alloc (Nat.le_refl _) _)).later ((Below.refl _ (w.alloc (.cells z95 95))).alloc (Nat.le_refl _) _), HR1.out, HB1.out, hlt⟩
  have hP1 : Cur ((w.alloc (.cells z95 95)).alloc (.cells #[.slice A b.length c, .int .i64 (at_ : Nat)] 87)) lo (w.heap.size + 1) b at_ := by have := HC1.out; rwa [World.size_alloc] at this
  obtain ⟨W1, hW1⟩ : ∃ W1, W1 = (w.alloc (.cells z95 95)).alloc (.cells #[.slice A b.length c, .int .i64 (at_ : Nat)] 87) := ⟨_, rfl⟩
  have hW1' := hW1
  unfold z95 at hW1'
  rw [← hW1']
  rw [← hW1] at hS1 hP1
  have HS1 := Lib.hid hS1
  have HP1 := Lib.hid hP1
  have hle' := Lib.hid hle
  clear hS1 hP1 hW1 hW1' HC1 HW1 HR1 HB1 H0 e0 e2 hle HBX
  by_cases h13 : b.length < at_ + 13
  · have hE := HE.out
    rw [if_pos h13] at hE
    subst hE
    refine (take_not 13 HP1.out hl (.inr (by omega))).mono ?_
    rintro e W2 ⟨v, rfl, hown, hb2⟩
    have HS2 := Lib.hid (HS1.out.later hb2)
    obtain ⟨A2, c2, rfl, _, _⟩ := bytes_of_own (l := []) hown
    clear hown hb2 h13 HE HH
    go_wp2_with (refine wpList_store_row rfl 95 _ _ rfl _ z95 rfl rfl _ _ HS2.out.rb info95 rfl (all3 _ _ _) ?_)
    have hr := HS2.out.row z95
    exact bodyPost_ret (results_cell2 Try.results49 _ _ w.heap.size 95 z95 _ _ rfl hr.1 Try.underlying95 rfl info95) rfl ⟨rfl, hr.2⟩
  have hlen : (nextB b at_ 13).length = 13 := nextB_len (by omega)
  refine (take_yes 13 HP1.out hl (by omega)).mono ?_
  rw [← HH.out] at hlen ⊢
  rintro e W2 ⟨v, rfl, hown, hp2, hg⟩
  have hS2 := HS1.out.grown HP1.out hg (Nat.lt_succ_self _)
  have hr0 := (bytes_of_own hown).reads
  rw [hlen] at hown
  obtain ⟨g, cap, rfl⟩ := own_some hown (by decide)
  have HS2 := Lib.hid hS2
  have HR0 := Lib.hid hr0
  have HL := Lib.hid hlen
  clear hown hp2 hg hS2 hr0 hlen HP1 HS1
  by_cases hm : nextB H 0 4 = markB
  · have HM := Lib.hid hm
    have hE := HE.out
    rw [if_neg h13] at hE
    have hh : headE H size = chkI (hCode H) (hNext H) (hPrev H) size := by unfold headE; rw [if_pos hm]
    rw [hh] at hE
    have hcd := hCode_lt H
    have hnx := hNext_lt H
    obtain ⟨UN, hUN⟩ : ∃ U, U = unitN H := ⟨_, rfl⟩
    rw [← hUN] at hE
    have hUN2 : UN = max (hNext H) 13 := hUN
    have HUN := Lib.hid hUN
    clear hm hh hUN
    go_wp2_with fail
    refine (read_yes _ _ _ _ _ HR0.out HL.out HM.out).mono ?_
    clear HR0 HL HM
    obtain ⟨cd, hcd0⟩ : ∃ cd, cd = hCode H := ⟨_, rfl⟩
    obtain ⟨nx, hnx0⟩ : ∃ cd, cd = hNext H := ⟨_, rfl⟩
    obtain ⟨pv, hpv0⟩ : ∃ cd, cd = hPrev H := ⟨_, rfl⟩
    rw [← hcd0, ← hnx0, ← hpv0] at hE ⊢
    rw [← hcd0] at hcd
    rw [← hnx0] at hnx hUN2
    have HN := Lib.hid (And.intro hcd0 (And.intro hnx0 hpv0))
    rintro e W3 ⟨rfl, hb3⟩
    have HS3 := Lib.hid (HS2.out.later hb3)
    have HE2 := Lib.hid hE
    have HUN2 := Lib.hid hUN2
    clear hb3 hE hcd0 hnx0 hpv0 hUN2 HS2 HE
    go_wp2_with fail
    have hHD := heap_alloc_new W3 (.cells #[.int .i64 (cd : Nat), .int .i64 (nx : Nat), .int .i64 (pv : Nat)] 95)
    have HS4 := Lib.hid (HS3.out.later ((Below.refl _ W3).alloc (Nat.le_refl _) (.cells #[.int .i64 (cd : Nat), .int .i64 (nx : Nat), .int .i64 (pv : Nat)] 95)))
    obtain ⟨hb, hhb⟩ : ∃ hb, hb = W3.heap.size := ⟨_, rfl⟩
    obtain ⟨W4, hW4⟩ : ∃ W4, W4 = W3.alloc (.cells #[.int .i64 (cd : Nat), .int .i64 (nx : Nat), .int .i64 (pv : Nat)] 95) := ⟨_, rfl⟩
    rw [← hhb] at hHD
    rw [← hW4] at hHD HS4
    rw [← hhb, ← hW4]
    have HHD := Lib.hid hHD
    have j0 : W4.cell? ⟨hb, 0, none⟩ = some (.int .i64 (cd : Nat)) := cell_of_row _ _ 0 _ _ _ hHD
    have j1 : W4.cell? ⟨hb, 1, none⟩ = some (.int .i64 (nx : Nat)) := cell_of_row _ _ 1 _ _ _ hHD
    have j2 : W4.cell? ⟨hb, 2, none⟩ = some (.int .i64 (pv : Nat)) := cell_of_row _ _ 2 _ _ _ hHD
    have js : W4.cell? ⟨wb, 1, none⟩ = some (.int .i64 size) := cell_of_row _ _ 1 _ _ _ HS4.out.wk
    obtain ⟨C, hC⟩ : ∃ C, C = chkI cd nx pv size := ⟨_, rfl⟩
    rw [← hC] at HE2
    have HC := Lib.hid hC
    clear hHD hhb hW4 HS3 hC
    go_region_held3 (fun w' => w'.cell? ⟨hb, 0, none⟩ = some (.int .i64 (cd : Nat)) ∧ w'.cell? ⟨hb, 1, none⟩ = some (.int .i64 (nx : Nat)) ∧ w'.cell? ⟨hb, 2, none⟩ = some (.int .i64 (pv : Nat)) ∧ w'.cell? ⟨wb, 1, none⟩ = some (.int .i64 size))
      (first
        | exact ⟨j0, j1, j2, js⟩
        | go_keep)
      (first
        | (go_at_call 53; refine (check_any cd nx pv size _ hcd).mono ?_; rw [← HC.out]; rintro e W5 ⟨rfl, hb5⟩; have HS5 := Lib.hid (HS4.out.later ((Below.refl _ W4).drew.trans hb5)); have HHD5 := Lib.hid (block_later HHD.out ((Below.refl _ W4).drew.trans hb5)); have j0 := cell_of_row _ _ 0 _ _ _ HHD5.out; have j1 := cell_of_row _ _ 1 _ _ _ HHD5.out; have j2 := cell_of_row _ _ 2 _ _ _ HHD5.out; have js := cell_of_row _ _ 1 _ _ _ HS5.out.wk; clear hb5))
    by_cases hC0 : C = 0
    · have hE := HE2.out
      rw [if_neg (by simp [hC0])] at hE
      subst hC0
      have hcase : (nx < 13 ∧ UN = 13) ∨ (13 ≤ nx ∧ UN = nx) := by have := HUN2.out; omega
      have HE3 := Lib.hid hE
      clear hE HE2
      have jw : W5.cell? ⟨wb, 0, none⟩ = some (.pointer (some ⟨cb, 0, none⟩)) := cell_of_row _ _ 0 _ _ _ HS5.out.wk
      have hlf := left_cur HS5.out.cur hl
      obtain ⟨L, hL⟩ : ∃ L, L = b.length - at_ := ⟨_, rfl⟩
      rw [← hL] at hlf
      have hL13 : (13 : Int) ≤ (L : Int) := by have := hle'.out; omega
      have hE4 : E = if L < UN then 30 else 0 := by
        rw [HE3.out]
        have := hle'.out
        by_cases hq : L < UN
        · rw [if_pos hq, if_pos (by omega)]
        · rw [if_neg hq, if_neg (by omega)]
      have HE3 := Lib.hid hE4
      have HLF := Lib.hid hlf
      clear hlf hL hE4 js j0 j1 j2 h13
      have fin30 : E = 30 → lookV E H = .tuple #[.agg #[.int .i64 0, .int .i64 0, .int .i64 0], .int .i64 0, .int .i64 30] := fun h => by subst h; exact lookV_ne (by decide) H
      have fin0 : E = 0 → lookV E H = .tuple #[.agg #[.int .i64 (cd : Nat), .int .i64 (nx : Nat), .int .i64 (pv : Nat)], .int .i64 (UN : Nat), .int .i64 0] := fun h => by
        subst h; rw [lookV_zero, ← HUN.out, ← HN.out.1, ← HN.out.2.1, ← HN.out.2.2]
      have FIN30 := Lib.hid fin30
      have FIN0 := Lib.hid fin0
      clear fin30 fin0
      rcases hcase with ⟨hx, hU⟩ | ⟨hx, hU⟩
      · have hx' : (nx : Int) < 13 := by omega
        have hx2 : ¬ (L : Int) < 13 := by omega
        have hE0 : E = 0 := by have := HE3.out; rw [if_neg (by omega)] at this; exact this
        have HR := Lib.hid (FIN0.out hE0)
        rw [hU] at HR
        clear hU hE0 hx
        go_wp2_with (first
          | (go_at_call 19; refine HLF.out.mono ?_; rintro e W6 ⟨rfl, k6, hw6⟩; have hb6 : Below W5.heap.size W5 W6 := (by rw [hw6]; exact below_drawn _ _ _); have HS6 := Lib.hid (HS5.out.later hb6); have HD6 := Lib.hid (block_later HHD5.out hb6); clear hw6 hb6 jw)
          | (refine wpList_load_row rfl 95 _ rfl _ rfl _ _ _ _ HD6.out Try.underlying95 rfl info95 ?_)
          | (refine wpList_store_row rfl 95 _ _ rfl _ #[.int .i64 (cd : Nat), .int .i64 (nx : Nat), .int .i64 (pv : Nat)] rfl rfl _ _ HS6.out.rb info95 rfl (all3 _ _ _) ?_))
        have hr := HS6.out.row #[.int .i64 (cd : Nat), .int .i64 (nx : Nat), .int .i64 (pv : Nat)]
        exact bodyPost_ret (results_cell2 Try.results49 _ _ w.heap.size 95 #[.int .i64 (cd : Nat), .int .i64 (nx : Nat), .int .i64 (pv : Nat)] _ _ rfl hr.1 Try.underlying95 rfl info95) rfl ⟨by rw [HR.out]; rfl, hr.2⟩
      · subst hU
        have hx' : ¬ (UN : Int) < 13 := by omega
        by_cases hlt : L < UN
        · have hx2 : (L : Int) < UN := by omega
          have hE0 : E = 30 := by have := HE3.out; rw [if_pos hlt] at this; exact this
          have HR := Lib.hid (FIN30.out hE0)
          clear hE0 hx hlt
          go_wp2_with (first
            | (go_at_call 19; refine HLF.out.mono ?_; rintro e W6 ⟨rfl, k6, hw6⟩; have hb6 : Below W5.heap.size W5 W6 := (by rw [hw6]; exact below_drawn _ _ _); have HS6 := Lib.hid (HS5.out.later hb6); have HD6 := Lib.hid (block_later HHD5.out hb6); clear hw6 hb6 jw)
            | (refine wpList_store_row rfl 95 _ _ rfl _ z95 rfl rfl _ _ HS6.out.rb info95 rfl (all3 _ _ _) ?_))
          have hr := HS6.out.row z95
          exact bodyPost_ret (results_cell2 Try.results49 _ _ w.heap.size 95 z95 _ _ rfl hr.1 Try.underlying95 rfl info95) rfl ⟨by rw [HR.out]; rfl, hr.2⟩
        · have hx2 : ¬ (L : Int) < UN := by omega
          have hE0 : E = 0 := by have := HE3.out; rw [if_neg hlt] at this; exact this
          have HR := Lib.hid (FIN0.out hE0)
          clear hE0 hx hlt
          go_wp2_with (first
            | (go_at_call 19; refine HLF.out.mono ?_; rintro e W6 ⟨rfl, k6, hw6⟩; have hb6 : Below W5.heap.size W5 W6 := (by rw [hw6]; exact below_drawn _ _ _); have HS6 := Lib.hid (HS5.out.later hb6); have HD6 := Lib.hid (block_later HHD5.out hb6); clear hw6 hb6 jw)
            | (refine wpList_load_row rfl 95 _ rfl _ rfl _ _ _ _ HD6.out Try.underlying95 rfl info95 ?_)
            | (refine wpList_store_row rfl 95 _ _ rfl _ #[.int .i64 (cd : Nat), .int .i64 (UN : Nat), .int .i64 (pv : Nat)] rfl rfl _ _ HS6.out.rb info95 rfl (all3 _ _ _) ?_))
          have hr := HS6.out.row #[.int .i64 (cd : Nat), .int .i64 (UN : Nat), .int .i64 (pv : Nat)]
          exact bodyPost_ret (results_cell2 Try.results49 _ _ w.heap.size 95 #[.int .i64 (cd : Nat), .int .i64 (UN : Nat), .int .i64 (pv : Nat)] _ _ rfl hr.1 Try.underlying95 rfl info95) rfl ⟨by rw [HR.out]; rfl, hr.2⟩
    · have hE := HE2.out
      rw [if_pos hC0] at hE
      subst hE
      have hb0 : (E != 0) = true := by simp [hC0]
      have hif : lookV E H = .tuple #[.agg #[.int .i64 0, .int .i64 0, .int .i64 0], .int .i64 0, .int .i64 E] := lookV_ne hC0 H
      have HIF := Lib.hid hif
      clear hif hC0
      go_wp2_with (refine wpList_store_row rfl 95 _ _ rfl _ z95 rfl rfl _ _ HS5.out.rb info95 rfl (all3 _ _ _) ?_)
      have hr := HS5.out.row z95
      exact bodyPost_ret (results_cell2 Try.results49 _ _ w.heap.size 95 z95 _ _ rfl hr.1 Try.underlying95 rfl info95) rfl ⟨by rw [HIF.out]; rfl, hr.2⟩
  · have hE := HE.out
    have hh : headE H size = 270 := by unfold headE; rw [if_neg hm]
    rw [if_neg h13, hh, if_pos (by decide)] at hE
    subst hE
    have HM := Lib.hid hm
    clear hm hh h13
    go_wp2_with fail
    refine (read_not _ _ _ _ _ HR0.out HL.out HM.out).mono ?_
    rintro e W3 ⟨rfl, hb3⟩
    have HS3 := Lib.hid ((HS2.out.later hb3).later ((Below.refl _ _).alloc (Nat.le_refl _) (.cells z95 95)))
    clear hb3
    go_wp2_with (refine wpList_store_row rfl 95 _ _ rfl _ z95 rfl rfl _ _ HS3.out.rb info95 rfl (all3 _ _ _) ?_)
    have hr := HS3.out.row z95
    exact bodyPost_ret (results_cell2 Try.results49 _ _ w.heap.size 95 z95 _ _ rfl hr.1 Try.underlying95 rfl info95) rfl ⟨rfl, hr.2⟩
end Go.Proofs.Ytbekkdlgibijdaa
