/- The document's list of shots. -/
import Derived.Test.YtmnkbcigjbiniaaGpR
import Derived.Deep.DeepCutAuto
namespace Go.Proofs.Ytmnkbcigjbiniaa
open Go.RowKit

/-- blocks of other types stay -/
def Kept (ts : List TypeId) (w w' : World) : Prop := ∀ (k : Nat) (cs : Array Value) (t : TypeId) (fr : Nat × Nat), w.heap[k]? = some (.cells cs t fr) → t ∉ ts → w'.heap[k]? = some (.cells cs t fr)
theorem Kept.trans {ts : List TypeId} {a b c : World} (h : Kept ts a b) (k : Kept ts b c) : Kept ts a c := fun i cs t fr e ht => k i cs t fr (h i cs t fr e ht) ht
theorem kept_below {ts : List TypeId} {a b : World} (h : Below a.heap.size a b) : Kept ts a b := fun i _ _ _ e _ => (h.block i (block_lt e)).trans e
theorem kept_append {W w1 : World} {n₁ : Nat} {size : Nat} {v : Value} {k : Nat} {xs : List Value} {tmp : Obj} (hrow : W.ownsRow n₁ 32 size v k xs) (hgrow : (W.alloc tmp).grownBy w1 v.ownBlock) : Kept [32] W w1 := fun i cs t fr e ht => by
  have hi := block_lt e
  rw [hgrow.block i (by simp; omega) (fun e2 => ?_), Below.heap_alloc _ _ _ hi]
  · exact e
  · obtain ⟨cs2, t2, fr2, h2, h3⟩ := own_type hrow i e2.symm
    rw [e] at h2; cases h2; exact ht (by rw [h3]; decide)
theorem RefsAt.kept {ts : List TypeId} {w w' : World} {v : Value} {l : List Int} (h : RefsAt w v l) (hk : Kept ts w w') (ht : 3 ∉ ts) : RefsAt w' v l := by
  rcases h with h | ⟨h0, g, hv, hb⟩
  · exact .inl h
  · exact .inr ⟨h0, g, hv, hk _ _ _ _ hb ht⟩
theorem grown_set (w : World) (B o : Nat) (v : Value) : w.grownBy (w.setCell ⟨B, o, none⟩ v) (some B) :=
  ⟨rfl, rfl, rfl, by simp, fun k _ hk => heap_setCell_other _ _ _ _ (fun e => hk (by rw [e]))⟩
theorem grown_refl (w : World) (row : Option Nat) : w.grownBy w row := ⟨rfl, rfl, rfl, Nat.le_refl _, fun _ _ _ => rfl⟩
theorem grown_trans {a b c : World} {row : Option Nat} (h : a.grownBy b row) (k : b.grownBy c row) : a.grownBy c row :=
  ⟨k.os.trans h.os, k.tape.trans h.tape, k.output.trans h.output, Nat.le_trans h.size k.size, fun i hi hr => (k.block i (Nat.lt_of_lt_of_le hi h.size) hr).trans (h.block i hi hr)⟩
theorem grown_of (row : Option Nat) {a b : World} (h : Below a.heap.size a b) : a.grownBy b row := ⟨h.os, h.tape, h.output, h.size, fun k hk _ => h.block k hk⟩
theorem kept_grown {ts : List TypeId} {a b : World} {r : Nat} {cs : Array Value} {t : TypeId} {fr : Nat × Nat} (h : a.grownBy b (some r)) (hr : a.heap[r]? = some (.cells cs t fr)) (ht : t ∈ ts) : Kept ts a b := fun i cs' t' fr' e h' => by
  refine (h.block i (block_lt e) (fun e2 => ?_)).trans e
  cases e2
  rw [hr] at e; cases e; exact h' ht
theorem cells_new2 (w : World) (o : Obj) (cs : Array Value) (t : TypeId) : ∀ j u, cs.toList[j]? = some u → ((w.alloc o).alloc (.cells cs t)).cell? ((⟨w.heap.size + 1, 0, none⟩ : Addr).add j) = some u := by
  have := cells_new (w.alloc o) cs t
  rw [World.size_alloc] at this
  exact this
theorem below_up {W V V' : World} (h : Below W.heap.size W V) (k : Below V.heap.size V V') : Below W.heap.size W V' := h.trans (k.mono h.size)

set_option maxRecDepth 20000 in
set_option maxHeartbeats 4000000 in
theorem refList_no (n p b : Int) (w : World) (hno : okA n p b = false) :
    Calls Try.prog 11 #[.int .i64 n, .agg #[.int .i64 p, .int .i64 b]] w (ShotsPost n p b w) := by
  have hcn : cntA n p b = 0 := by unfold cntA; rw [if_neg (by simp [hno])]
  have hs : shots n p b = [] := by unfold shots; rw [hcn]; rfl
  have HC := Lib.hid (And.intro hcn hs)
  have hB0 := (Below.refl w.heap.size w).alloc (Nat.le_refl _) (.cells #[.int .i64 p, .int .i64 b] 23)
  have HB0 := Lib.hid hB0
  clear hcn hs hB0 hno
  go_enter Try.func11, Try.ntmps11
  go_wp2_with fail
  refine (refAnchors_any n p b _).mono ?_
  rintro e w1 ⟨v, rfl, hown, hb1⟩
  rw [HC.out.1] at hown
  obtain ⟨A, cap, g, rfl, _, _⟩ := own_at hown
  have HB1 := Lib.hid (below_up HB0.out hb1)
  clear hown hb1
  go_wp2_with fail
  go_loopw [5, 17] (fun o i wr => o = .slice none 0 0 ∧ i = .int .i64 0 ∧ wr = w1) (fun _ _ _ => 0)
  case atStart => exact ⟨rfl, rfl, rfl⟩
  case round =>
    obtain ⟨rfl, rfl, rfl⟩ := hrel
    go_wp2
    go_ret
    exact ⟨_, [], rfl, by rw [HC.out.2]; rfl, World.ownsRow_nil _ _ _ _, by simp, HB1.out⟩
set_option maxRecDepth 20000 in
set_option maxHeartbeats 4000000 in
theorem refList_yes (n p b : Int) (w : World) (hok : okA n p b = true) :
    Calls Try.prog 11 #[.int .i64 n, .agg #[.int .i64 p, .int .i64 b]] w (ShotsPost n p b w) := by
  obtain ⟨i0, hi, hz0, hz1, hz2⟩ := info_parts info32
  have hcn := cntA_le n p b
  have hp0 : 0 ≤ p := (okA_yes hok).1.1
  have HB0 := Lib.hid ((Below.refl w.heap.size w).alloc (Nat.le_refl _) (.cells #[.int .i64 p, .int .i64 b] 23))
  have HX0 := Lib.hid (heap_alloc_new w (.cells #[.int .i64 p, .int .i64 b] 23))
  have HOK := Lib.hid hok
  clear hok
  go_enter Try.func11, Try.ntmps11
  go_wp2_with fail
  refine (refAnchors_any n p b _).mono ?_
  rintro e w1 ⟨v, rfl, hown, hb1⟩
  obtain ⟨hA, g, cap, cur, hv, hg0, hgr, htake⟩ : 0 < cntA n p b ∧ ∃ g cap cur, v = .slice (some ⟨g, 0, none⟩) (cntA n p b) cap ∧ w.heap.size ≤ g ∧ w1.heap[g]? = some (.cells cur 3 (0, 0)) ∧ cur.toList.take (cntA n p b) = (List.range (cntA n p b)).map (ancV n b) := by
    have hpos : 0 < cntA n p b := by
      unfold cntA; rw [if_pos HOK.out]; unfold cntG; exact Nat.lt_of_lt_of_le (Nat.succ_pos _) (Nat.le_add_right _ _)
    rcases hown.2 with ⟨_, h⟩ | ⟨g, cap, cur, hv, hg, hh, _, _, _, ht⟩
    · omega
    · exact ⟨hpos, g, cap, cur, hv, by have := HB0.out.size; omega, hh, by simpa using ht⟩
  subst hv
  have hcur : ∀ j, j < cntA n p b → cur[j]? = some (ancV n b j) := fun j hj => by
    have : (cur.toList.take (cntA n p b))[j]? = some (ancV n b j) := by rw [htake]; simp [hj]
    rwa [List.getElem?_take_of_lt hj, Array.getElem?_toList] at this
  have hx1 := block_later HX0.out hb1
  have HX1 := Lib.hid hx1
  have HCUR := Lib.hid hcur
  have HGR := Lib.hid hgr
  have HB1 := Lib.hid (below_up HB0.out hb1)
  clear hcur hgr hb1 hown htake hg0 hx1
  go_wp2_with fail
  go_loopw [5, 17] (fun ov i wr => ∃ (k : Nat) (xs : List ShX), k ≤ cntA n p b ∧ i = .int .i64 k ∧ Hid (xs.map (·.1) = ahead n p b k) ∧ Hid (wr.ownsRow w.heap.size 32 4 ov xs.length (rowX xs)) ∧ Hid (∀ x ∈ xs, ShG x wr) ∧ Hid (Below w.heap.size w wr) ∧ Hid (wr.heap[g]? = some (.cells cur 3 (0, 0)) ∧ wr.heap[w.heap.size]? = some (.cells #[.int .i64 p, .int .i64 b] 23 (0, 0)))) (fun _ i _ => (cntA n p b - intOf i).toNat)
  case atStart => exact ⟨0, [], by omega, rfl, Lib.hid rfl, Lib.hid (World.ownsRow_nil _ _ _ _), Lib.hid (by simp), HB1, Lib.hid ⟨HGR.out, HX1.out⟩⟩
  case round =>
    obtain ⟨k, xs, hk, rfl, hxs, hown, hG, hB, hGX⟩ := hrel
    by_cases hlt : k < cntA n p b
    · obtain ⟨Ao, mo, co, hov⟩ : ∃ A m c, _ = Value.slice A m c := by
        rcases hown.out.2 with ⟨hv, _⟩ | ⟨g, cap, cur, hv, _⟩
        · exact ⟨_, _, _, hv⟩
        · exact ⟨_, _, _, hv⟩
      subst hov
      obtain ⟨Aq, hAq⟩ : ∃ Aq, Aq = ancA n b k := ⟨_, rfl⟩
      have hAq1 : Aq ≤ 1000 := by have := ancA_bd HOK.out hlt; omega
      have y0 : wr.cell? ⟨g, k, none⟩ = some (.int .i64 (Aq : Nat)) := by rw [cell_of_row _ _ k _ _ _ hGX.out.1, HCUR.out k hlt, hAq]; rfl
      have i1 : (0 : Int) ≤ (k : Int) := by omega
      have i2 : (k : Int) < (cntA n p b : Int) := by omega
      have HAQ := Lib.hid hAq
      have hal := (Below.refl wr.heap.size wr).alloc (Nat.le_refl _) (.cells #[.int .i64 (Aq : Nat), .slice none 0 0, .bool true, .int .i64 0] 32)
      have HS := Lib.hid (heap_alloc_new wr (.cells #[.int .i64 (Aq : Nat), .slice none 0 0, .bool true, .int .i64 0] 32))
      have HY := Lib.hid hal
      clear hAq hal
      go_upto_region 8 with fail
      obtain ⟨sb, hsb⟩ : ∃ sb, sb = wr.heap.size := ⟨_, rfl⟩
      obtain ⟨wy, hwy⟩ : ∃ wy, wy = wr.alloc (.cells #[.int .i64 (Aq : Nat), .slice none 0 0, .bool true, .int .i64 0] 32) := ⟨_, rfl⟩
      rw [← hsb, ← hwy]
      rw [← hsb, ← hwy] at HS
      rw [← hwy] at HY
      have HSB := Lib.hid (show w.heap.size ≤ sb by rw [hsb]; exact hB.out.size)
      have HGY := Lib.hid (And.intro (block_later hGX.out.1 HY.out) (block_later hGX.out.2 HY.out))
      have HOY := Lib.hid (show wy.ownsRow w.heap.size 32 4 (.slice Ao mo co) xs.length (rowX xs) from hown.out.kept (below_grown HY.out) (by cases (Value.slice Ao mo co).ownBlock <;> simp))
      have HGG := Lib.hid (show ∀ x ∈ xs, ShG x wy from fun x hx => RefsAt.below (hG.out x hx) HY.out)
      have HBY := Lib.hid (below_up hB.out HY.out)
      have HNE := Lib.hid (show (Value.slice Ao mo co).ownBlock = none ∨ (Value.slice Ao mo co).ownBlock ≠ some sb from .inr (fun e => by have := (hown.out.lt sb e).2; omega))
      clear y0 hwy hsb
      go_cut [35] (fun t wx => t = .bool (decide (0 < p) && ((k : Int) % p == 0)) ∧ wx = wy)
      case first =>
        have y1 := cell_of_row _ _ 0 _ _ _ HGY.out.2
        by_cases hp : p = 0
        · subst hp
          go_wp2_with fail
          go_meet
          exact ⟨rfl, rfl⟩
        · have hp1 : 0 < p := by omega
          have hp2 : decide (0 < p) = true := decide_eq_true hp1
          go_wp2_with fail
          go_meet
          exact ⟨by simp [hp1], rfl⟩
      case rest =>
        obtain ⟨rfl, rfl⟩ := hcut
        obtain ⟨B35, h35⟩ : ∃ t, t = (decide (0 < p) && ((k : Int) % p == 0)) := ⟨_, rfl⟩
        rw [← h35]
        have hwb : ownB p k = ((k : Int) == 0 || B35) := by
          rw [h35]; unfold ownB
          rw [show (k == 0) = ((k : Int) == 0) by rw [Bool.eq_iff_iff]; simp]
        clear h35
        go_upto_if 35 with fail
        go_cut [10] (fun o wx => o = .bool (ownB p k) ∧ wx = wc)
        case first =>
          cases B35 with
          | true =>
            go_wp2_with fail
            go_meet
            exact ⟨by rw [hwb]; simp, rfl⟩
          | false =>
            go_wp2_with fail
            go_meet
            exact ⟨by rw [hwb]; simp, rfl⟩
        case rest =>
          obtain ⟨rfl, rfl⟩ := hcut
          obtain ⟨own, hown'⟩ : ∃ o, o = ownB p k := ⟨_, rfl⟩
          rw [← hown']
          have HOWN := Lib.hid hown'
          have h0own : own = false → 1 ≤ k := fun h => by
            rw [h] at hown'
            by_cases h0 : k = 0
            · subst h0; cases hown'
            · omega
          have H0OWN := Lib.hid h0own
          obtain ⟨Pq, hPq⟩ : ∃ Pq, Pq = ancA n b (k - 1) := ⟨_, rfl⟩
          have HPQ := Lib.hid hPq
          clear hwb hown' h0own hPq
          go_upto_if 37 with fail
          go_cut [10] (fun o wx => o = .bool own ∧ ∃ v, Hid (wx.heap[sb]? = some (.cells #[.int .i64 (Aq : Nat), v, .bool true, .int .i64 0] 32 (0, 0))) ∧ Hid (RefsAt wx v (if own = true then [] else [((Pq : Nat) : Int)])) ∧ Hid (wc.grownBy wx (some sb)))
          case first =>
            cases own with
            | true =>
              go_wp2_with fail
              go_meet
              exact ⟨rfl, _, HS, Lib.hid (refs_nil _), Lib.hid (grown_refl _ _)⟩
            | false =>
              have hk1 := H0OWN.out rfl
              have i3 : (1 : Int) ≤ (k : Int) := by omega
              have y3 : wc.cell? ⟨g, k - 1, none⟩ = some (.int .i64 (Pq : Nat)) := by rw [cell_of_row _ _ (k - 1) _ _ _ HGY.out.1, HCUR.out (k - 1) (by omega), HPQ.out]; rfl
              have hs0 := HS.out
              have hsl := block_lt hs0
              have hal := (Below.refl wc.heap.size wc).alloc (Nat.le_refl _) (.cells #[.int .i64 (Pq : Nat)] 3)
              have x1 : (wc.alloc (.cells #[.int .i64 (Pq : Nat)] 3)).cell? ⟨sb, 1, none⟩ = some (.slice none 0 0) := cell_of_row _ _ 1 _ _ _ (block_later hs0 hal)
              have f1 : (wc.alloc (.cells #[.int .i64 (Pq : Nat)] 3)).frozen? ⟨sb, 1, none⟩ = false := frozen_of_row _ _ 1 _ _ (block_later hs0 hal)
              have hR := heap_alloc_new wc (.cells #[.int .i64 (Pq : Nat)] 3)
              have hst := heap_setCell_same _ _ 1 _ _ (.slice (some ⟨wc.heap.size, 0, none⟩) 1 1) (block_later hs0 hal)
              have HREL := Lib.hid (show RefsAt ((wc.alloc (.cells #[.int .i64 (Pq : Nat)] 3)).setCell ⟨sb, 1, none⟩ (.slice (some ⟨wc.heap.size, 0, none⟩) 1 1)) (.slice (some ⟨wc.heap.size, 0, none⟩) 1 1) [((Pq : Nat) : Int)] from .inr ⟨by simp, wc.heap.size, rfl, (heap_setCell_other _ _ _ _ (by show wc.heap.size ≠ sb; omega)).trans hR⟩)
              have HST := Lib.hid hst
              have HGS := Lib.hid (grown_trans (grown_of (some sb) hal) (grown_set (wc.alloc (.cells #[.int .i64 (Pq : Nat)] 3)) sb 1 (.slice (some ⟨wc.heap.size, 0, none⟩) 1 1)))
              clear hs0 hsl hal hR hst
              go_wp2_with fail
              go_meet
              exact ⟨rfl, _, HST, HREL, HGS⟩
          case rest =>
            obtain ⟨rfl, v, HS1, HR1, HG1⟩ := hcut
            have hk1 := kept_grown (ts := [32]) HG1.out HS.out (by decide)
            have HO1 := Lib.hid (HOY.out.kept HG1.out HNE.out)
            have HGX1 := Lib.hid (And.intro (hk1 _ _ _ _ HGY.out.1 (by decide)) (hk1 _ _ _ _ HGY.out.2 (by decide)))
            have HGG1 := Lib.hid (show ∀ x ∈ xs, ShG x wc from fun x hx => RefsAt.kept (HGG.out x hx) hk1 (by decide))
            have HBW1 := Lib.hid (HBY.out.grown HG1.out HBY.out.size (fun j hj => by cases hj; exact HSB.out))
            obtain ⟨Rq, hRq⟩ : ∃ Rq : Int, Rq = if 2 ≤ k then (Aq : Int) - (ancA n b (k - 2) : Nat) else 0 := ⟨_, rfl⟩
            have HRQ := Lib.hid hRq
            clear hk1 HS HOY HGY HGG HBY HY hRq HG1 hG hB hown hGX
            go_upto_if 46 with fail
            go_cut [10] (fun o wx => o = .bool own ∧ Hid (wx.heap[sb]? = some (.cells #[.int .i64 (Aq : Nat), v, .bool true, .int .i64 Rq] 32 (0, 0))) ∧ Hid (wc.grownBy wx (some sb)))
            case first =>
              by_cases h2 : 2 ≤ k
              · have i4 : (1 : Int) < (k : Int) := by omega
                obtain ⟨Zq, hZq⟩ : ∃ Zq, Zq = ancA n b (k - 2) := ⟨_, rfl⟩
                have hZ1 : Zq ≤ 1000 := by have := ancA_bd HOK.out (show k - 2 < cntA n p b by omega); omega
                have hR : Rq = (Aq : Int) - (Zq : Nat) := by rw [HRQ.out, if_pos h2, hZq]
                have y4 : wc.cell? ⟨g, k - 2, none⟩ = some (.int .i64 (Zq : Nat)) := by rw [cell_of_row _ _ (k - 2) _ _ _ HGX1.out.1, HCUR.out (k - 2) (by omega), hZq]; rfl
                have x3 : wc.cell? ⟨sb, 3, none⟩ = some (.int .i64 0) := cell_of_row _ _ 3 _ _ _ HS1.out
                have f3 : wc.frozen? ⟨sb, 3, none⟩ = false := frozen_of_row _ _ 3 _ _ HS1.out
                have HST := Lib.hid (heap_setCell_same _ _ 3 _ _ (.int .i64 ((Aq : Int) - (Zq : Nat))) HS1.out)
                have HGS := Lib.hid (grown_set wc sb 3 (.int .i64 ((Aq : Int) - (Zq : Nat))))
                have i5 : (2 : Int) ≤ (k : Int) := by omega
                have HR := Lib.hid hR
                clear hZq hR
                go_wp2_with fail
                go_meet
                exact ⟨rfl, by rw [HR.out]; exact HST, HGS⟩
              · have i4 : ¬ (1 : Int) < (k : Int) := by omega
                have hR : Rq = 0 := by rw [HRQ.out, if_neg h2]
                subst hR
                go_wp2_with fail
                go_meet
                exact ⟨rfl, HS1, Lib.hid (grown_refl _ _)⟩
            case rest =>
              obtain ⟨rfl, HS2, HG2⟩ := hcut
              have hk2 := kept_grown (ts := [32]) HG2.out HS1.out (by decide)
              have HO2 := Lib.hid (HO1.out.kept HG2.out HNE.out)
              have HGX2 := Lib.hid (And.intro (hk2 _ _ _ _ HGX1.out.1 (by decide)) (hk2 _ _ _ _ HGX1.out.2 (by decide)))
              have HGG2 := Lib.hid (show ∀ x ∈ xs, ShG x wc from fun x hx => RefsAt.kept (HGG1.out x hx) hk2 (by decide))
              have HBW2 := Lib.hid (HBW1.out.grown HG2.out HBW1.out.size (fun j hj => by cases hj; exact HSB.out))
              have hr2 := RefsAt.kept HR1.out hk2 (by decide)
              have hsh : anchorSh n p b k = ⟨(Aq : Nat), if own = true then [] else [((Pq : Nat) : Int)], true, Rq⟩ := by
                unfold anchorSh
                rw [← HAQ.out, ← HPQ.out, ← HOWN.out, HRQ.out]
              have hx2 : ShG (anchorSh n p b k, v) wc := by
                show RefsAt wc v (anchorSh n p b k).refs
                rw [hsh]; exact hr2
              obtain ⟨Av, mv, cv, rfl⟩ := refs_form hr2
              have hcx : cellX (anchorSh n p b k, .slice Av mv cv) = [.int .i64 (Aq : Nat), .slice Av mv cv, .bool true, .int .i64 Rq] := by unfold cellX; rw [hsh]
              have HX2 := Lib.hid hx2
              have h1c := one_cells hx2
              rw [hcx] at h1c
              have H1C := Lib.hid h1c
              have HCX := Lib.hid hcx
              have hlx : xs.length ≤ 1000 := by
                have h1 : xs.length = (ahead n p b k).length := by rw [← hxs.out, List.length_map]
                have h2 := ahead_len (n := n) (p := p) (b := b) (show k ≤ cntA n p b by omega)
                have h3 := shots_le n p b
                rw [← ahead_all] at h3
                omega
              have u0 : wc.cell? ⟨sb, 0, none⟩ = some (.int .i64 (Aq : Nat)) := cell_of_row _ _ 0 _ _ _ HS2.out
              have u1 : wc.cell? ⟨sb, 1, none⟩ = some (.slice Av mv cv) := cell_of_row _ _ 1 _ _ _ HS2.out
              have u2 : wc.cell? ⟨sb, 2, none⟩ = some (.bool true) := cell_of_row _ _ 2 _ _ _ HS2.out
              have u3 : wc.cell? ⟨sb, 3, none⟩ = some (.int .i64 Rq) := cell_of_row _ _ 3 _ _ _ HS2.out
              clear hk2 HO1 HGX1 HGG1 HBW1 hr2 hsh hx2 hcx h1c HS1 HR1 HG2
              go_upto_if 60 with (at_builtin; refine wpList_append_own _ rfl _ _ 27 rfl w.heap.size 32 i0 (.agg #[.int .i64 0, .slice none 0 0, .bool false, .int .i64 0]) 4 48 Try.underlying27 hi hz0 hz1 hz2 rfl (by decide) (.slice Ao mo co) xs.length (rowX xs) rfl (HO2.out.alloc _) ⟨wc.heap.size, 0, none⟩ 1 1 [.int .i64 (Aq : Nat), .slice Av mv cv, .bool true, .int .i64 Rq] rfl rfl (cells_new _ #[.int .i64 (Aq : Nat), .slice Av mv cv, .bool true, .int .i64 Rq] _) H1C.out (by unfold maxLen; omega) (by first | omega | (simp; omega)) (by have := HBW2.out.size; first | omega | (simp; omega)) ?_; intro v7 W7 hown7 hgrow7 _; have HO7 := Lib.hid hown7; have HG7 := Lib.hid hgrow7; clear hown7 hgrow7)
              have hk7 := kept_append HO2.out HG7.out
              obtain ⟨ys, hys⟩ : ∃ ys, ys = xs ++ [(anchorSh n p b k, Value.slice Av mv cv)] := ⟨_, rfl⟩
              have HY7 := Lib.hid (show ys.map (·.1) = partG n p b k 0 by rw [hys, part_zero, List.map_append, hxs.out]; rfl)
              have HO8 := Lib.hid (show W7.ownsRow w.heap.size 32 4 v7 ys.length (rowX ys) by rw [hys, rowX_snoc, List.length_append, HCX.out]; exact HO7.out)
              have HB8 := Lib.hid (show Below w.heap.size w W7 from (HBW2.out.alloc HBW2.out.size _).grown HG7.out (by have := HBW2.out.size; simp; omega) (fun j hj => (HO2.out.lt j hj).1))
              have HGX8 := Lib.hid (And.intro (hk7 _ _ _ _ HGX2.out.1 (by decide)) (hk7 _ _ _ _ HGX2.out.2 (by decide)))
              have HGG8 := Lib.hid (show ∀ x ∈ ys, ShG x W7 from fun x hx => by
                rw [hys] at hx
                rcases List.mem_append.1 hx with hx | hx
                · exact RefsAt.kept (HGG2.out x hx) hk7 (by decide)
                · rw [List.mem_singleton] at hx
                  subst hx
                  exact RefsAt.kept HX2.out hk7 (by decide))
              clear hk7 HO7 HG7 HO2 HGX2 HGG2 HBW2 HX2 H1C HCX hxs hys HS2 u0 u1 u2 u3
              by_cases k0 : k = 0
              · subst k0
                go_wp2
                go_roundw
                case rel => exact ⟨1, ys, by omega, by go_num, Lib.hid (by rw [HY7.out]; exact part_full n p b 0), HO8, HGG8, HB8, HGX8⟩
                case measure => simp [intOf]; omega
              · have hPA : Pq < Aq := by
                  have := (ancA_succ n b (k - 1)).1
                  rw [show k - 1 + 1 = k by omega] at this
                  rw [HPQ.out, HAQ.out]; exact this
                have i3 : (0 : Int) < (k : Int) := by omega
                have i4 : (1 : Int) ≤ (k : Int) := by omega
                have y3 : W7.cell? ⟨g, k - 1, none⟩ = some (.int .i64 (Pq : Nat)) := by rw [cell_of_row _ _ (k - 1) _ _ _ HGX8.out.1, HCUR.out (k - 1) (by omega), HPQ.out]; rfl
                rw [show decide (0 < k) = true from decide_eq_true (by omega)]
                have HGAP := Lib.hid (show gapN n b k = Aq - Pq - 1 by unfold gapN; rw [if_neg k0, HAQ.out, HPQ.out])
                go_wp2_with fail
                go_loopw [5, 11] (fun ov i wr => ∃ (j : Nat) (zs : List ShX), Pq + 1 + j ≤ Aq ∧ i = .int .i64 ((Pq : Int) + 1 + (j : Int)) ∧ Hid (zs.map (·.1) = partG n p b k j) ∧ Hid (wr.ownsRow w.heap.size 32 4 ov zs.length (rowX zs)) ∧ Hid (∀ x ∈ zs, ShG x wr) ∧ Hid (Below w.heap.size w wr) ∧ Hid (wr.heap[g]? = some (.cells cur 3 (0, 0)) ∧ wr.heap[w.heap.size]? = some (.cells #[.int .i64 p, .int .i64 b] 23 (0, 0)))) (fun _ i _ => (Aq - intOf i).toNat)
                case atStart => exact ⟨0, ys, by omega, by go_num, HY7, HO8, HGG8, HB8, HGX8⟩
                case round =>
                  clear y3 HY7 HO8 HGG8 HB8 HGX8
                  obtain ⟨j, zs, hj, rfl, hzs, hown, hG, hB, hGX⟩ := hrel
                  have y3 : wr.cell? ⟨g, k - 1, none⟩ = some (.int .i64 (Pq : Nat)) := by rw [cell_of_row _ _ (k - 1) _ _ _ hGX.out.1, HCUR.out (k - 1) (by omega), HPQ.out]; rfl
                  by_cases hjl : Pq + 1 + j < Aq
                  · obtain ⟨A2, m2, c2, hov⟩ : ∃ A m c, _ = Value.slice A m c := by
                      rcases hown.out.2 with ⟨hv, _⟩ | ⟨g, cap, cur, hv, _⟩
                      · exact ⟨_, _, _, hv⟩
                      · exact ⟨_, _, _, hv⟩
                    subst hov
                    have hjl' : (Pq : Int) + 1 + (j : Int) < (Aq : Int) := by omega
                    have hal := (Below.refl wr.heap.size wr).alloc (Nat.le_refl _) (.cells #[.int .i64 (Pq : Nat), .int .i64 (Aq : Nat)] 3)
                    have hx2 : ShG (btwSh n b k j, .slice (some ⟨wr.heap.size, 0, none⟩) 2 2) (wr.alloc (.cells #[.int .i64 (Pq : Nat), .int .i64 (Aq : Nat)] 3)) := by
                      refine .inr ⟨by simp [btwSh], wr.heap.size, rfl, ?_⟩
                      simp only [btwSh, ← HPQ.out, ← HAQ.out]
                      exact heap_alloc_new wr _
                    have hcx : cellX (btwSh n b k j, .slice (some ⟨wr.heap.size, 0, none⟩) 2 2) = [.int .i64 ((Pq : Int) + 1 + (j : Int)), .slice (some ⟨wr.heap.size, 0, none⟩) 2 2, .bool false, .int .i64 0] := by
                      unfold cellX btwSh
                      rw [← HPQ.out]
                      simp
                    have h1c := one_cells hx2
                    rw [hcx] at h1c
                    have hlz : zs.length ≤ 2000 := by
                      have h1 : zs.length = (ahead n p b k).length + 1 + j := by rw [← part_len, ← hzs.out, List.length_map]
                      have h2 := ahead_len (n := n) (p := p) (b := b) (show k ≤ cntA n p b by omega)
                      have h3 := shots_le n p b
                      rw [← ahead_all] at h3
                      omega
                    have HO2 := Lib.hid (show (wr.alloc (.cells #[.int .i64 (Pq : Nat), .int .i64 (Aq : Nat)] 3)).ownsRow w.heap.size 32 4 (.slice A2 m2 c2) zs.length (rowX zs) from hown.out.alloc _)
                    have HGX2 := Lib.hid (And.intro (block_later hGX.out.1 hal) (block_later hGX.out.2 hal))
                    have HGG2 := Lib.hid (show ∀ x ∈ zs, ShG x (wr.alloc (.cells #[.int .i64 (Pq : Nat), .int .i64 (Aq : Nat)] 3)) from fun x hx => RefsAt.below (hG.out x hx) hal)
                    have HBW2 := Lib.hid (below_up hB.out hal)
                    have HX2 := Lib.hid hx2
                    have HCX := Lib.hid hcx
                    have H1C := Lib.hid h1c
                    have HSZ := Lib.hid hB.out.size
                    clear hal hx2 hcx h1c hown hG hB hGX
                    go_wp2_with (at_builtin; refine wpList_append_own _ rfl _ _ 27 rfl w.heap.size 32 i0 (.agg #[.int .i64 0, .slice none 0 0, .bool false, .int .i64 0]) 4 48 Try.underlying27 hi hz0 hz1 hz2 rfl (by decide) (.slice A2 m2 c2) zs.length (rowX zs) rfl (HO2.out.alloc _) ⟨wr.heap.size + 1, 0, none⟩ 1 1 [.int .i64 ((Pq : Int) + 1 + (j : Int)), .slice (some ⟨wr.heap.size, 0, none⟩) 2 2, .bool false, .int .i64 0] rfl rfl (cells_new2 _ _ #[.int .i64 ((Pq : Int) + 1 + (j : Int)), .slice (some ⟨wr.heap.size, 0, none⟩) 2 2, .bool false, .int .i64 0] _) H1C.out (by unfold maxLen; omega) (by first | omega | (simp; omega)) (by have := HSZ.out; first | omega | (simp; omega)) ?_; intro v7 W7 hown7 hgrow7 _; have HO7 := Lib.hid hown7; have HG7 := Lib.hid hgrow7; clear hown7 hgrow7)
                    have hk7 := kept_append HO2.out HG7.out
                    obtain ⟨ys, hys⟩ : ∃ ys, ys = zs ++ [(btwSh n b k j, Value.slice (some ⟨wr.heap.size, 0, none⟩) 2 2)] := ⟨_, rfl⟩
                    have HY7 := Lib.hid (show ys.map (·.1) = partG n p b k (j + 1) by rw [hys, part_succ, List.map_append, hzs.out]; rfl)
                    have HO8 := Lib.hid (show W7.ownsRow w.heap.size 32 4 v7 ys.length (rowX ys) by rw [hys, rowX_snoc, List.length_append, HCX.out]; exact HO7.out)
                    have HB8 := Lib.hid (show Below w.heap.size w W7 from (HBW2.out.alloc HBW2.out.size _).grown HG7.out (by have := HBW2.out.size; simp at this ⊢; omega) (fun j hj => (HO2.out.lt j hj).1))
                    have HGX8 := Lib.hid (And.intro (hk7 _ _ _ _ HGX2.out.1 (by decide)) (hk7 _ _ _ _ HGX2.out.2 (by decide)))
                    have HGG8 := Lib.hid (show ∀ x ∈ ys, ShG x W7 from fun x hx => by
                      rw [hys] at hx
                      rcases List.mem_append.1 hx with hx | hx
                      · exact RefsAt.kept (HGG2.out x hx) hk7 (by decide)
                      · rw [List.mem_singleton] at hx
                        subst hx
                        exact RefsAt.kept HX2.out hk7 (by decide))
                    clear hk7 HO7 HG7 HO2 HGX2 HGG2 HBW2 HX2 H1C HCX hzs hys
                    go_wp2
                    go_roundw
                    case rel => exact ⟨j + 1, ys, by omega, by go_num, HY7, HO8, HGG8, HB8, HGX8⟩
                    case measure => simp [intOf]; omega
                  · have HJG := Lib.hid (show j = gapN n b k by rw [HGAP.out]; omega)
                    have hjl' : ¬ (Pq : Int) + 1 + (j : Int) < (Aq : Int) := by omega
                    clear y3
                    go_wp2
                    refine ⟨⟨k + 1, zs, by omega, by go_num, Lib.hid ?_, hown, hG, hB, hGX⟩, by simp [intOf]; omega⟩
                    rw [hzs.out, HJG.out, part_full]
    · obtain rfl : k = cntA n p b := by omega
      go_wp2
      go_ret
      exact ⟨_, xs, rfl, by rw [hxs.out, ahead_all], hown.out, hG.out, hB.out⟩
theorem refList_any (n p b : Int) (w : World) : Calls Try.prog 11 #[.int .i64 n, .agg #[.int .i64 p, .int .i64 b]] w (ShotsPost n p b w) := by
  cases h : okA n p b with
  | true => exact refList_yes n p b w h
  | false => exact refList_no n p b w h
end Go.Proofs.Ytmnkbcigjbiniaa
