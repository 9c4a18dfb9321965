/- A walker's iterator, ranged over: its walk. -/
import Derived.Test.YtbekkdlgibijdaaUnI
import Derived.Shelf.Abstract
import Derived.Deep.RegionHeld3
namespace Go.Proofs.Ytbekkdlgibijdaa
open Go.RowKit Go.Shelf
attribute [local go_sem] Oper.semAt_some

theorem UnSt.setU {V : World} {b1 b2 eb wb cb lo at_ ub : Nat} {ev size : Int} {ended : Bool} {b : List UInt8} (h : UnSt V b1 b2 eb wb cb lo ev size ended b at_) {a v : Value} (hu : V.heap[ub]? = some (.cells #[a, v] 66 (0, 0))) (x y : Value) : UnSt ((V.setCell ⟨ub, 0, none⟩ x).setCell ⟨ub, 1, none⟩ y) b1 b2 eb wb cb lo ev size ended b at_ := by
  have h0 := heap_setCell_same _ _ 0 _ _ x hu
  exact h.kept ((kept_set (ts := [66]) hu (by decide) (o := 0) x).trans (kept_set h0 (by decide) (o := 1) y)) (by decide)
theorem u_set {V : World} {ub : Nat} {a v : Value} (hu : V.heap[ub]? = some (.cells #[a, v] 66 (0, 0))) (x y : Value) : ((V.setCell ⟨ub, 0, none⟩ x).setCell ⟨ub, 1, none⟩ y).heap[ub]? = some (.cells #[x, y] 66 (0, 0)) := by
  have h0 := heap_setCell_same _ _ 0 _ _ x hu
  exact heap_setCell_same _ _ 1 _ _ y h0
theorem Itc.newer {ts : List TypeId} {N0 : Nat} {A B B' : World} (h : Itc ts N0 A B) (hb : Below A.heap.size B B') (hn : N0 ≤ A.heap.size) : Itc ts N0 A B' := ⟨h.below.trans (hb.mono hn), fun i o e ht => (hb.block i (block_lt e)).trans (h.same i o e ht)⟩
theorem Itc.more {ts us : List TypeId} {N0 : Nat} {A B : World} (h : Itc ts N0 A B) (hs : ∀ t ∈ ts, t ∈ us) : Itc us N0 A B := ⟨h.below, fun i o e ht => h.same i o e (fun cs t fr e2 h2 => ht cs t fr e2 (hs t h2))⟩
theorem pos_succ (b : List UInt8) (k : Nat) : posU b (k + 1) = ((posU b k).1 + unitN (headU b k), ((unitN (headU b k) : Nat) : Int)) := rfl
theorem next_facts {V W2 : World} {b1 b2 eb wb cb lo at_ ub cd n : Nat} {ev size : Int} {ended : Bool} {b : List UInt8} {e : Ending} (h : UnSt V b1 b2 eb wb cb lo ev size ended b at_) (hu : V.heap[ub]? = some (.cells z66 66 (0, 0))) (hp : NxPost V wb cb lo b at_ cd n e W2) :
    ∃ A m c, e = .returned (.tuple #[.agg #[.int .i64 (cd : Nat), .slice A m c], .int .i64 0]) ∧ UnSt W2 b1 b2 eb wb cb lo ev (n : Nat) ((cd : Int) == 16) b (at_ + n) ∧ W2.heap[ub]? = some (.cells z66 66 (0, 0)) ∧ BytesAt W2 V.heap.size (.slice A m c) (nextB b (at_ + 13) (n - 13)) ∧ KeptO [87, 93] V W2 ∧ ∀ N, N ≤ V.heap.size → N ≤ cb → N ≤ wb → Below N V W2 := by
  obtain ⟨v, rfl, hby, hwk, hcur, hko, hbl⟩ := hp
  have hby' := hby
  obtain ⟨A, c, rfl, _, _⟩ := hby'
  exact ⟨A, _, c, rfl, ⟨hko.cl _ _ _ _ h.x1 (by decide), hko.cl _ _ _ _ h.x2 (by decide), hko.cl _ _ _ _ h.xe (by decide), ⟨hwk, hcur⟩⟩, hko.cl _ _ _ _ hu (by decide), hby, hko, hbl⟩
theorem below_u {N : Nat} {V : World} {ub : Nat} (h : N ≤ ub) (x y : Value) : Below N V ((V.setCell ⟨ub, 0, none⟩ x).setCell ⟨ub, 1, none⟩ y) := ((Below.refl N V).setCell h x).setCell h y
theorem keep_drew {w : World} {a : Addr} {v : Value} (h : w.cell? a = some v) : w.drew.cell? a = some v := h
set_option maxRecDepth 100000 in
set_option maxHeartbeats 4000000 in
theorem units_in (d l N0 b1 b2 eb wb cb lo : Nat) (ev : Int) (b : List UInt8) (hl : b.length ≤ 4294967296) (n1 : N0 ≤ wb) (n2 : N0 ≤ cb) (n3 : N0 ≤ eb)
    (J : List UX → World → Prop) (W : World) (hJ : ∀ s A B, J s A → Itc [67, 87, 93] N0 A B → J s B)
    (hY : ∀ pre x W1, J pre W1 → UG N0 x W1 → pre.length < 4294967296 → YieldAt Fence.wide (d - 1) Try.prog l (encU x) W1 fun e W' => e = .returned (.bool true) ∧ J (pre ++ [x]) W' ∧ KU W1 W')
    (hst : UnSt W b1 b2 eb wb cb lo ev 0 false b 0) (hn : N0 ≤ W.heap.size) (h0 : J [] W) :
    CallsIn Fence.wide d Try.prog 54 #[.func (.yield l) #[] #[], .pointer (some ⟨b1, 0, none⟩), .pointer (some ⟨b2, 0, none⟩)] W fun e W' => (∃ v, e = .returned v) ∧ ∃ xs : List UX, UnFin eb wb cb lo b xs W' ∧ J xs W' := by
  have HY := Lib.hid hY
  have HJ := Lib.hid hJ
  have HST := Lib.hid hst
  have H0 := Lib.hid h0
  have HN := Lib.hid (And.intro n1 (And.intro n2 n3))
  clear hY hJ hst h0 n1 n2 n3
  refine callsIn_of_wp Try.func54 rfl trivial ?_ rfl
  simp only [Try.ntmps54, List.size_toArray, List.length_cons, List.length_nil, Nat.reduceAdd, Nat.reduceSub, Array.replicate_succ, Array.replicate_zero, List.push_toArray, List.append_toArray, List.nil_append, List.cons_append]
  have hwide : ∀ k, Fence.wide.fn k := fun _ => trivial
  have hdep : Fence.wide.depth = none := rfl
  have hrnd : Fence.wide.round = none := rfl
  gi_wp2_with fail
  gi_loopw [] (fun wr => ∃ (k : Nat) (pre : List UX) (ev : Int), Hid (∀ j, j < k → goesU b j) ∧ Hid (pre.map (·.1) = (List.range k).map (elU b)) ∧ Hid (J pre wr) ∧ Hid (UnSt wr b1 b2 eb wb cb lo ev (posU b k).2 false b (posU b k).1) ∧ Hid (N0 ≤ wr.heap.size)) (fun wr => aheadOf b.length cb wr)
  case atStart => exact ⟨0, [], ev, Lib.hid (fun j h => by omega), Lib.hid rfl, H0, HST, Lib.hid hn⟩
  case round =>
    obtain ⟨k, pre, ev, hgo, hpre, hJ, hU, hsz⟩ := hrel
    obtain ⟨at_, hat⟩ : ∃ a, a = (posU b k).1 := ⟨_, rfl⟩
    obtain ⟨sz, hszz⟩ : ∃ a, a = (posU b k).2 := ⟨_, rfl⟩
    rw [← hat, ← hszz] at hU
    have hW1 := (Below.refl _ wr).alloc (Nat.le_refl _) (.cells z66 66)
    have hU1 := hU.out.later hW1
    have hub := heap_alloc_new wr (.cells z66 66)
    have hJ1 : J pre (wr.alloc (.cells z66 66)) := HJ.out _ _ _ hJ.out (Itc.of hW1 hsz.out)
    have HU1 := Lib.hid hU1
    have HUB := Lib.hid hub
    have HJ1 := Lib.hid hJ1
    have HP := Lib.hid (And.intro hat hszz)
    have HW1 := Lib.hid hW1
    clear hat hszz hW1 hU1 hub hJ1
    gi_wp2_with fail
    obtain ⟨ub, hube⟩ : ∃ ub, ub = wr.heap.size := ⟨_, rfl⟩
    obtain ⟨W1, hW1e⟩ : ∃ W1, W1 = wr.alloc (.cells z66 66) := ⟨_, rfl⟩
    have hW1e' := hW1e
    unfold z66 at hW1e'
    rw [← hube, ← hW1e']
    rw [← hube, ← hW1e] at HUB
    rw [← hW1e] at HU1 HJ1 HW1
    have HUE := Lib.hid hube
    have k1 : W1.cell? ⟨b1, 0, none⟩ = some (.pointer (some ⟨wb, 0, none⟩)) := cell_of_row _ _ 0 _ _ _ HU1.out.x1
    have k2 : W1.cell? ⟨b2, 0, none⟩ = some (.pointer (some ⟨eb, 0, none⟩)) := cell_of_row _ _ 0 _ _ _ HU1.out.x2
    clear hW1e hube hW1e'
    refine wpIn_wide.2 ?_
    by_cases hE : errU b k = 0
    · have hwE : wkE b at_ sz false = 0 := by rw [HP.out.1, HP.out.2]; exact hE
      have hC := next35_yes (HU1.out.later (Below.refl _ W1).drew).wk hl hwE
      obtain ⟨H, hH⟩ : ∃ H, H = nextB b at_ 13 := ⟨_, rfl⟩
      rw [← hH] at hC
      obtain ⟨cd, hcd⟩ : ∃ c, c = hCode H := ⟨_, rfl⟩
      obtain ⟨n, hn'⟩ : ∃ c, c = unitN H := ⟨_, rfl⟩
      rw [← hcd, ← hn'] at hC
      have hcd4 : cd < 4294967296 := by rw [hcd]; exact hCode_lt H
      have HC := Lib.hid hC
      have HE := Lib.hid hE
      have HHH := Lib.hid (show H = headU b k by rw [hH, HP.out.1]; rfl)
      have HCD := Lib.hid hcd
      have HNN := Lib.hid hn'
      clear hC hH hcd hn' hE hwE
      go_region_held3 (fun w' => w'.cell? ⟨b1, 0, none⟩ = some (.pointer (some ⟨wb, 0, none⟩)) ∧ w'.cell? ⟨b2, 0, none⟩ = some (.pointer (some ⟨eb, 0, none⟩)))
        (first
          | exact ⟨k1, k2⟩
          | exact ⟨keep_drew k1, keep_drew k2⟩
          | exact ⟨m1, m2⟩
          | exact ⟨p1, p2⟩
          | go_keep)
        (first
          | (go_at_call 35; refine HC.out.mono ?_; rintro e W2 hpost; obtain ⟨A, m, c, rfl, hU2, hB2, hrest⟩ := next_facts (HU1.out.later (Below.refl _ W1).drew) (block_later HUB.out (Below.refl _ W1).drew) hpost; have HK := Lib.hid hrest; have HU2 := Lib.hid hU2; have HUB2 := Lib.hid hB2; have k1 := cell_of_row _ _ 0 _ _ _ HU2.out.x1; have k2 := cell_of_row _ _ 0 _ _ _ HU2.out.x2; have u0 := cell_of_row _ _ 0 _ _ _ HUB2.out; have u1 := cell_of_row _ _ 1 _ _ _ HUB2.out; have v0 := frozen_of_row _ _ 0 _ _ HUB2.out; have v1 := frozen_of_row _ _ 1 _ _ HUB2.out; have HU3 := Lib.hid (HU2.out.setU HUB2.out (.int .i64 (cd : Nat)) (.slice A m c)); have HUB3 := Lib.hid (u_set HUB2.out (.int .i64 (cd : Nat)) (.slice A m c)); have m1 := cell_of_row _ _ 0 _ _ _ HU3.out.x1; have m2 := cell_of_row _ _ 0 _ _ _ HU3.out.x2; have e0 := cell_of_row _ _ 0 _ _ _ HU3.out.xe; have e1 := frozen_of_row _ _ 0 _ _ HU3.out.xe; have HU4 := Lib.hid (HU3.out.set 0); have p1 := cell_of_row _ _ 0 _ _ _ HU4.out.x1; have p2 := cell_of_row _ _ 0 _ _ _ HU4.out.x2; clear hU2 hB2 hrest hpost))
      have hszW1 : N0 ≤ W1.heap.size := Nat.le_trans hsz.out HW1.out.size
      have hI : Itc [67, 87, 93] N0 wr (((W2.setCell ⟨ub, 0, none⟩ (.int .i64 (cd : Nat))).setCell ⟨ub, 1, none⟩ (.slice A m c)).setCell ⟨eb, 0, none⟩ (.int .i64 0)) := by
        have i1 : Itc [67, 87, 93] N0 wr W1.drew := Itc.of (HW1.out.trans ((Below.refl _ W1).drew.mono HW1.out.size)) hsz.out
        have i2 : Itc [67, 87, 93] N0 W1.drew W2 := (⟨HK.out.2.2 N0 hszW1 HN.out.2.1 HN.out.1, HK.out.2.1⟩ : Itc [87, 93] N0 W1.drew W2).more (by decide)
        exact ((i1.trans i2).newer (below_u (by rw [HUE.out]; exact Nat.le_refl _) _ _) hsz.out).trans (Itc.set HU3.out.xe (by decide) HN.out.2.2 _)
      have hby : BytesAt (((W2.setCell ⟨ub, 0, none⟩ (.int .i64 (cd : Nat))).setCell ⟨ub, 1, none⟩ (.slice A m c)).setCell ⟨eb, 0, none⟩ (.int .i64 0)) N0 (.slice A m c) (nextB b (at_ + 13) (n - 13)) := by
        have hb0 := HK.out.1.mono hszW1
        have h0 := heap_setCell_same _ _ 0 _ _ (.int .i64 (cd : Nat)) HUB2.out
        exact (hb0.kept ((kept_set (ts := [66]) HUB2.out (by decide) (o := 0) (.int .i64 (cd : Nat))).trans (kept_set h0 (by decide) (o := 1) (.slice A m c))) (by decide)).kept (kept_set (ts := [67]) HU3.out.xe (by decide) (o := 0) (.int .i64 0)) (by decide)
      have hub4 := kept_set (ts := [67]) HU3.out.xe (by decide) (o := 0) (.int .i64 0) _ _ _ _ HUB3.out (by decide)
      obtain ⟨W4, hW4⟩ : ∃ W4, W4 = ((W2.setCell ⟨ub, 0, none⟩ (.int .i64 (cd : Nat))).setCell ⟨ub, 1, none⟩ (.slice A m c)).setCell ⟨eb, 0, none⟩ (.int .i64 0) := ⟨_, rfl⟩
      rw [← hW4]
      rw [← hW4] at HU4 hI hby hub4
      have HI := Lib.hid hI
      have HBY := Lib.hid hby
      have q2 : W4.cell? ⟨b2, 0, none⟩ = some (.pointer (some ⟨eb, 0, none⟩)) := cell_of_row _ _ 0 _ _ _ HU4.out.x2
      have qe : W4.cell? ⟨eb, 0, none⟩ = some (.int .i64 0) := cell_of_row _ _ 0 _ _ _ HU4.out.xe
      have q0 : W4.cell? ⟨ub, 0, none⟩ = some (.int .i64 (cd : Nat)) := cell_of_row _ _ 0 _ _ _ hub4
      have q1 : W4.cell? ⟨ub, 1, none⟩ = some (.slice A m c) := cell_of_row _ _ 1 _ _ _ hub4
      clear hW4 hI hby hub4 k1 k2 u0 u1 v0 v1 m1 m2 e0 e1 p1 p2 hszW1 HK HUB2 HUB3 HU2 HU3
      by_cases h16 : cd = 16
      · subst h16
        gi_wp2_with fail
        refine bodyPost_ret (results_none Try.results54 _ _ _) rfl ?_
        have hEn : errU b k = 0 := HE.out
        obtain ⟨s9, e9, hwk9⟩ : ∃ s e, Wkr W4 wb cb lo s e b (endU b k) := by
          have he : endU b k = at_ + n := by unfold endU; rw [if_pos hEn, ← HP.out.1, ← HHH.out, ← HNN.out]
          rw [he]; exact ⟨_, _, HU4.out.wk⟩
        exact ⟨⟨_, rfl⟩, pre, ⟨k, s9, e9, ⟨hgo.out, fun h => h.2 (by rw [← HHH.out, ← HCD.out])⟩, hpre.out, by rw [hEn]; exact HU4.out.xe, hwk9⟩, HJ.out _ _ _ hJ.out HI.out⟩
      · have h16b : ((cd : Int) == 16) = false := by simp; omega
        have hgo1 : goesU b k := ⟨HE.out, by rw [← HHH.out, ← HCD.out]; exact h16⟩
        have hlen : pre.length = k := by have := congrArg List.length hpre.out; simpa using this
        have hk4 := count_le (b := b) (k := k) hgo.out
        have hJ4 := HJ.out _ _ _ hJ.out HI.out
        have hel : (cd, nextB b (at_ + 13) (n - 13)) = elU b k := by unfold elU; rw [← HHH.out, ← HCD.out, ← HNN.out, ← HP.out.1]
        have hY5 := HY.out pre ((cd, nextB b (at_ + 13) (n - 13)), .slice A m c) W4 hJ4 HBY.out (by omega)
        obtain ⟨fn, tmps, assign, body, hy, hRd⟩ := hY5
        have HR5 := Lib.hid hRd
        have HGO1 := Lib.hid hgo1
        have HEL := Lib.hid hel
        have HLE := Lib.hid HU4.out.wk.bound
        simp only [encU] at hy ⊢
        clear hRd hJ4 hgo1 hlen hk4 hel h16
        gi_wp2_with fail
        refine HR5.out.mono ?_
        clear hy HR5 q2 qe q0 q1
        rintro e W5 ⟨rfl, hJ5, hK5⟩
        have HU5 := Lib.hid (HU4.out.kept hK5.1 (by decide))
        have HJ5 := Lib.hid hJ5
        have HS5 := Lib.hid (Nat.le_trans (Nat.le_trans hsz.out HI.out.below.size) hK5.2)
        have HH16 := Lib.hid h16b
        clear hJ5 hK5
        gi_wp2
        have hps : posU b (k + 1) = (at_ + n, ((n : Nat) : Int)) := by rw [pos_succ, ← HHH.out, ← HNN.out, ← HP.out.1]
        have hU6 : UnSt W5 b1 b2 eb wb cb lo 0 (posU b (k + 1)).2 false b (posU b (k + 1)).1 := by
          rw [hps]
          have := HU5.out
          rwa [HH16.out] at this
        have hn13 : 13 ≤ n := by rw [HNN.out]; exact Nat.le_max_right _ _
        have ha0 := ahead_cur hU.out.wk.cur
        have ha1 := ahead_cur HU5.out.wk.cur
        have hle := HLE.out
        go_roundw
        case rel => exact ⟨k + 1, pre ++ [((cd, nextB b (at_ + 13) (n - 13)), .slice A m c)], 0, Lib.hid (fun j hj => by
          by_cases hjk : j = k
          · rw [hjk]; exact HGO1.out
          · exact hgo.out j (by omega)), Lib.hid (by rw [List.map_append, hpre.out, List.range_succ, List.map_append]; simp only [List.map_cons, List.map_nil]; rw [HEL.out]), HJ5, Lib.hid hU6, HS5⟩
        case measure => rw [ha0, ha1]; omega
    · have hwE : wkE b at_ sz false ≠ 0 := by rw [HP.out.1, HP.out.2]; exact hE
      have hC := next35_no (HU1.out.later (Below.refl _ W1).drew).wk hl hwE
      obtain ⟨E, hEe⟩ : ∃ E, E = wkE b at_ sz false := ⟨_, rfl⟩
      rw [← hEe] at hC hwE
      have HC := Lib.hid hC
      have HEE := Lib.hid hEe
      clear hC hEe hE
      have hb0 : (E != 0) = true := by simp [hwE]
      go_region_held3 (fun w' => w'.cell? ⟨b1, 0, none⟩ = some (.pointer (some ⟨wb, 0, none⟩)) ∧ w'.cell? ⟨b2, 0, none⟩ = some (.pointer (some ⟨eb, 0, none⟩)))
        (first
          | exact ⟨k1, k2⟩
          | exact ⟨keep_drew k1, keep_drew k2⟩
          | exact ⟨m1, m2⟩
          | exact ⟨p1, p2⟩
          | go_keep)
        (first
          | (go_at_call 35; refine HC.out.mono ?_; rintro e W2 ⟨rfl, hb2⟩; have HU2 := Lib.hid ((HU1.out.later (Below.refl _ W1).drew).later hb2); have HB2 := Lib.hid ((Below.refl _ W1).drew.trans hb2); have HUB2 := Lib.hid (block_later HUB.out HB2.out); have k1 := cell_of_row _ _ 0 _ _ _ HU2.out.x1; have k2 := cell_of_row _ _ 0 _ _ _ HU2.out.x2; have u0 := cell_of_row _ _ 0 _ _ _ HUB2.out; have u1 := cell_of_row _ _ 1 _ _ _ HUB2.out; have v0 := frozen_of_row _ _ 0 _ _ HUB2.out; have v1 := frozen_of_row _ _ 1 _ _ HUB2.out; have HU3 := Lib.hid (HU2.out.setU HUB2.out (.int .i64 0) (.slice none 0 0)); have m1 := cell_of_row _ _ 0 _ _ _ HU3.out.x1; have m2 := cell_of_row _ _ 0 _ _ _ HU3.out.x2; have e0 := cell_of_row _ _ 0 _ _ _ HU3.out.xe; have e1 := frozen_of_row _ _ 0 _ _ HU3.out.xe; have HU4 := Lib.hid (HU3.out.set E); have p1 := cell_of_row _ _ 0 _ _ _ HU4.out.x1; have p2 := cell_of_row _ _ 0 _ _ _ HU4.out.x2; clear hb2))
      have hI : Itc [67, 87, 93] N0 wr (((W2.setCell ⟨ub, 0, none⟩ (.int .i64 0)).setCell ⟨ub, 1, none⟩ (.slice none 0 0)).setCell ⟨eb, 0, none⟩ (.int .i64 E)) :=
        ((Itc.of (HW1.out.trans (HB2.out.mono HW1.out.size)) hsz.out).newer (below_u (by rw [HUE.out]; exact Nat.le_refl _) _ _) hsz.out).trans (Itc.set HU3.out.xe (by decide) HN.out.2.2 _)
      obtain ⟨W4, hW4⟩ : ∃ W4, W4 = ((W2.setCell ⟨ub, 0, none⟩ (.int .i64 0)).setCell ⟨ub, 1, none⟩ (.slice none 0 0)).setCell ⟨eb, 0, none⟩ (.int .i64 E) := ⟨_, rfl⟩
      rw [← hW4]
      rw [← hW4] at HU4 hI
      have HI := Lib.hid hI
      have q2 : W4.cell? ⟨b2, 0, none⟩ = some (.pointer (some ⟨eb, 0, none⟩)) := cell_of_row _ _ 0 _ _ _ HU4.out.x2
      have qe : W4.cell? ⟨eb, 0, none⟩ = some (.int .i64 E) := cell_of_row _ _ 0 _ _ _ HU4.out.xe
      have hwE' := Lib.hid hwE
      clear hW4 hI k1 k2 u0 u1 v0 v1 m1 m2 e0 e1 p1 p2 hwE
      gi_wp2_with fail
      refine bodyPost_ret (results_none Try.results54 _ _ _) rfl ?_
      have hEU : E = errU b k := by rw [HEE.out, HP.out.1, HP.out.2]; rfl
      have hEn : errU b k ≠ 0 := by rw [← hEU]; exact hwE'.out
      refine ⟨⟨_, rfl⟩, pre, ⟨k, sz, false, ⟨hgo.out, fun h => hEn h.1⟩, hpre.out, ?_, ?_⟩, HJ.out _ _ _ hJ.out HI.out⟩
      · rw [← hEU]; exact HU4.out.xe
      · have he : endU b k = at_ := by unfold endU; rw [if_neg hEn, ← HP.out.1]
        rw [he]; exact HU4.out.wk
end Go.Proofs.Ytbekkdlgibijdaa
