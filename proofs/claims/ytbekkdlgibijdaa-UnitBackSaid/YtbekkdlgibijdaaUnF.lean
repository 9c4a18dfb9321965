/- A walker's next unit, where there is one. -/
import Derived.Test.YtbekkdlgibijdaaUnE
namespace Go.Proofs.Ytbekkdlgibijdaa
open Go.RowKit

theorem oneE_ok {b : List UInt8} {at_ : Nat} {size : Int} (h : oneE b at_ size = 0) : at_ + 13 ≤ b.length ∧ at_ + unitN (nextB b at_ 13) ≤ b.length ∧ headE (nextB b at_ 13) size = 0 := by
  unfold oneE at h
  split at h
  · cases h
  · split at h
    · rename_i h2; exact absurd h h2
    · split at h
      · cases h
      · rename_i h2 h3; exact ⟨by omega, by omega, by simpa using h2⟩
/-- while a walker goes on: itself, its cursor, the head, the result's block -/
structure NxSt (w V : World) (wb cb hb lo : Nat) (size : Int) (ended : Bool) (b : List UInt8) (at_ : Nat) (cd nx pv : Nat) : Prop where
  wk : WkAt V wb cb size ended
  cur : Cur V lo cb b at_
  rb : V.heap[w.heap.size]? = some (.cells z66 66 (0, 0))
  hd : V.heap[hb]? = some (.cells #[.int .i64 (cd : Nat), .int .i64 (nx : Nat), .int .i64 (pv : Nat)] 95 (0, 0))
  kept : KeptO [87, 93] w V
  below : ∀ N, N ≤ w.heap.size → N ≤ cb → N ≤ wb → Below N w V
  n1 : cb < w.heap.size
  n2 : wb < w.heap.size
  n3 : wb ≠ cb
theorem NxSt.size {w V : World} {wb cb hb lo at_ cd nx pv : Nat} {size : Int} {ended : Bool} {b : List UInt8} (h : NxSt w V wb cb hb lo size ended b at_ cd nx pv) : w.heap.size ≤ V.heap.size := (h.below 0 (Nat.zero_le _) (Nat.zero_le _) (Nat.zero_le _)).size
theorem NxSt.later {w V V' : World} {wb cb hb lo at_ cd nx pv : Nat} {size : Int} {ended : Bool} {b : List UInt8} (h : NxSt w V wb cb hb lo size ended b at_ cd nx pv) (hb' : Below V.heap.size V V') : NxSt w V' wb cb hb lo size ended b at_ cd nx pv :=
  ⟨h.wk.later hb', h.cur.later hb', block_later h.rb hb', block_later h.hd hb', h.kept.trans (keptO_below hb'), fun N h1 h2 h3 => (h.below N h1 h2 h3).trans (hb'.mono (Nat.le_trans h1 h.size)), h.n1, h.n2, h.n3⟩
theorem NxSt.call {w V V' : World} {wb cb hb lo at_ at2 cd nx pv : Nat} {size : Int} {ended : Bool} {b : List UInt8} (h : NxSt w V wb cb hb lo size ended b at_ cd nx pv) (hC : Cur V' lo cb b at2) (hg : V.grownBy V' (some cb)) : NxSt w V' wb cb hb lo size ended b at2 cd nx pv := by
  obtain ⟨cv, hbox, _, _⟩ := h.cur
  have hkO := keptO_grown (ts := [87, 93]) hg hbox (by decide)
  have hk := hkO.cl
  exact ⟨(hg.block wb (block_lt h.wk) (fun e => h.n3 (Option.some.inj e))).trans h.wk, hC, hk _ _ _ _ h.rb (by decide), hk _ _ _ _ h.hd (by decide), h.kept.trans hkO, fun N h1 h2 h3 => below_grown2 (h.below N h1 h2 h3) hg (Nat.le_trans h1 h.size) h2, h.n1, h.n2, h.n3⟩
theorem NxSt.store1 {w V : World} {wb cb hb lo at_ cd nx pv : Nat} {size : Int} {ended : Bool} {b : List UInt8} (h : NxSt w V wb cb hb lo size ended b at_ cd nx pv) (s : Int) : NxSt w (V.setCell ⟨wb, 1, none⟩ (.int .i64 s)) wb cb hb lo s ended b at_ cd nx pv := by
  have hkO := keptO_set (ts := [87, 93]) h.wk (by decide) (o := 1) (.int .i64 s)
  have hk := hkO.cl
  exact ⟨heap_setCell_same _ _ 1 _ _ _ h.wk, h.cur.grown (grown_set V wb 1 _) h.n3 (.inr ⟨_, 93, _, h.wk, by decide⟩), hk _ _ _ _ h.rb (by decide), hk _ _ _ _ h.hd (by decide), h.kept.trans hkO, fun N h1 h2 h3 => (h.below N h1 h2 h3).setCell h3 _, h.n1, h.n2, h.n3⟩
theorem NxSt.store2 {w V : World} {wb cb hb lo at_ cd nx pv : Nat} {size : Int} {ended : Bool} {b : List UInt8} (h : NxSt w V wb cb hb lo size ended b at_ cd nx pv) (s : Bool) : NxSt w (V.setCell ⟨wb, 2, none⟩ (.bool s)) wb cb hb lo size s b at_ cd nx pv := by
  have hkO := keptO_set (ts := [87, 93]) h.wk (by decide) (o := 2) (.bool s)
  have hk := hkO.cl
  exact ⟨heap_setCell_same _ _ 2 _ _ _ h.wk, h.cur.grown (grown_set V wb 2 _) h.n3 (.inr ⟨_, 93, _, h.wk, by decide⟩), hk _ _ _ _ h.rb (by decide), hk _ _ _ _ h.hd (by decide), h.kept.trans hkO, fun N h1 h2 h3 => (h.below N h1 h2 h3).setCell h3 _, h.n1, h.n2, h.n3⟩
theorem Cur.kept {ts : List TypeId} {w w' : World} {lo cb : Nat} {l : List UInt8} {n : Nat} (h : Cur w lo cb l n) (hk : Kept ts w w') (h5 : (5 : TypeId) ∉ ts) (h87 : (87 : TypeId) ∉ ts) : Cur w' lo cb l n := by
  obtain ⟨v, h1, h2, h3⟩ := h
  exact ⟨v, hk _ _ _ _ h1 h87, h2.kept hk h5, h3⟩
theorem kept_row {ts : List TypeId} {V : World} {g : Nat} {old : Array Value} {t : TypeId} (hg : V.heap[g]? = some (.cells old t (0, 0))) (ht : t ∈ ts) (cs : Array Value) : Kept ts V (V.setRow g cs) := fun i cs' t' fr' e h => by
  refine (setRow_other V g i cs (fun e2 => ?_)).trans e
  subst e2
  rw [hg] at e; cases e; exact h ht
/-- what Next leaves -/
def NxPost (w : World) (wb cb lo : Nat) (b : List UInt8) (at_ cd n : Nat) (e : Ending) (w' : World) : Prop :=
  ∃ v, e = .returned (.tuple #[.agg #[.int .i64 (cd : Nat), v], .int .i64 0]) ∧ BytesAt w' w.heap.size v (nextB b (at_ + 13) (n - 13)) ∧
      WkAt w' wb cb (n : Nat) ((cd : Int) == 16) ∧ Cur w' lo cb b (at_ + n) ∧ KeptO [87, 93] w w' ∧ ∀ N, N ≤ w.heap.size → N ≤ cb → N ≤ wb → Below N w w'
theorem NxSt.done {w V : World} {wb cb hb lo at_ cd nx pv n : Nat} {b : List UInt8} {v : Value} (h : NxSt w V wb cb hb lo (n : Nat) ((cd : Int) == 16) b (at_ + n) cd nx pv) (hby : BytesAt V w.heap.size v (nextB b (at_ + 13) (n - 13))) :
    NxPost w wb cb lo b at_ cd n (.returned (.tuple #[.agg #[.int .i64 (cd : Nat), v], .int .i64 0])) (V.drew.setRow w.heap.size #[.int .i64 (cd : Nat), v]) := by
  have hd := h.later (Below.refl _ V).drew
  have hk := kept_row (ts := [66]) hd.rb (by decide) #[.int .i64 (cd : Nat), v]
  refine ⟨v, rfl, (hby.later (Below.refl _ V).drew).kept hk (by decide), hk _ _ _ _ hd.wk (by decide), hd.cur.kept hk (by decide) (by decide), fun i o e ht => ?_, fun N h1 h2 h3 => (hd.below N h1 h2 h3).trans (below_setRow _ _ _ h1)⟩
  have hi := block_lt e
  exact (setRow_other _ _ _ _ (by omega)).trans (hd.kept i o e ht)
set_option maxRecDepth 4000 in
set_option maxHeartbeats 2000000 in
theorem next35_ok {w : World} {wb cb lo : Nat} {size : Int} {b : List UInt8} {at_ : Nat} (h : WkAt w wb cb size false) (hc : Cur w lo cb b at_) (hl : b.length ≤ 4294967296) (hE : oneE b at_ size = 0) :
    Calls Try.prog 35 #[.pointer (some ⟨wb, 0, none⟩)] w (NxPost w wb cb lo b at_ (hCode (nextB b at_ 13)) (unitN (nextB b at_ 13))) := by
  have hB := (Below.refl w.heap.size w).alloc (Nat.le_refl _) (.cells z66 66)
  have hR := heap_alloc_new w (.cells z66 66)
  have hL := look_any (h.later hB) (hc.later hB) hl
  obtain ⟨he1, he2, _⟩ := oneE_ok hE
  rw [hE, lookV_zero] at hL
  obtain ⟨H, hH⟩ : ∃ H, H = nextB b at_ 13 := ⟨_, rfl⟩
  rw [← hH] at hL he2 ⊢
  obtain ⟨cd, hcd⟩ : ∃ c, c = hCode H := ⟨_, rfl⟩
  obtain ⟨nx, hnx⟩ : ∃ c, c = hNext H := ⟨_, rfl⟩
  obtain ⟨pv, hpv⟩ : ∃ c, c = hPrev H := ⟨_, rfl⟩
  obtain ⟨n, hn⟩ : ∃ c, c = unitN H := ⟨_, rfl⟩
  have hn13 : 13 ≤ n := by rw [hn]; exact Nat.le_max_right _ _
  have hcd4 : cd < 4294967296 := by rw [hcd]; exact hCode_lt H
  rw [← hcd, ← hnx, ← hpv, ← hn] at hL
  rw [← hn] at he2
  rw [← hcd, ← hn]
  have H0 := Lib.hid (And.intro h hc)
  have HB := Lib.hid hB
  have HR := Lib.hid hR
  have HL := Lib.hid hL
  have HE1 := Lib.hid he1
  have HE2 := Lib.hid he2
  clear h hc hE hB hR hL hH hcd hnx hpv hn he1 he2
  go_enter Try.func35, Try.ntmps35
  go_wp2_with fail
  refine HL.out.mono ?_
  rintro e W1 ⟨rfl, hb1⟩
  have hS1 : NxSt w (W1.alloc (.cells #[.int .i64 (cd : Nat), .int .i64 (nx : Nat), .int .i64 (pv : Nat)] 95)) wb cb W1.heap.size lo size false b at_ cd nx pv := by
    have hbb := HB.out.trans (hb1.mono (by simp))
    have hb2 := hbb.alloc hbb.size (.cells #[.int .i64 (cd : Nat), .int .i64 (nx : Nat), .int .i64 (pv : Nat)] 95)
    exact ⟨H0.out.1.later hb2, H0.out.2.later hb2, block_later (block_later HR.out hb1) ((Below.refl _ W1).alloc (Nat.le_refl _) _), heap_alloc_new _ _, keptO_below hb2, fun N h1 _ _ => hb2.mono h1, H0.out.2.lt, block_lt H0.out.1, fun e => by
      obtain ⟨cv, hbox, _⟩ := H0.out.2
      have hw := H0.out.1
      unfold WkAt at hw
      unfold CurBox at hbox
      rw [e, hbox] at hw
      cases hw⟩
  obtain ⟨hb, hhb⟩ : ∃ hb, hb = W1.heap.size := ⟨_, rfl⟩
  obtain ⟨W2, hW2⟩ : ∃ W, W = W1.alloc (.cells #[.int .i64 (cd : Nat), .int .i64 (nx : Nat), .int .i64 (pv : Nat)] 95) := ⟨_, rfl⟩
  rw [← hhb, ← hW2] at hS1
  have HS1 := Lib.hid hS1
  have HHB := Lib.hid (And.intro hhb hW2)
  have hsz := hb1.size
  clear hb1 hS1 hhb hW2 HL HB HR H0
  go_upto_region 6 with fail
  rw [← HHB.out.1, ← HHB.out.2]
  have k0 : W2.cell? ⟨wb, 0, none⟩ = some (.pointer (some ⟨cb, 0, none⟩)) := cell_of_row _ _ 0 _ _ _ HS1.out.wk
  clear HHB hsz
  go_wp2_with fail
  refine (take_yes n HS1.out.cur hl HE2.out).mono ?_
  have hlen := nextB_len (m := n) HE2.out
  rw [hlen]
  rintro e W3 ⟨v, rfl, hown, hC, hg⟩
  have hpc : nextB b (at_ + 13) (n - 13) = nextB (nextB b at_ n) 13 (n - 13) := by rw [nextB_nextB (by omega)]
  have hby : BytesAt W3 W2.heap.size v (nextB b at_ n) := bytes_of_own (by rw [hlen]; exact hown)
  obtain ⟨g, cap, rfl⟩ := own_some hown (by omega)
  have hcap : n ≤ cap := by obtain ⟨_, _, hv, hc, _⟩ := hby; injection hv with _ _ h3; subst h3; omega
  have hby2 := hby.piece 13 (n - 13) (by omega)
  rw [← hpc, Nat.zero_add] at hby2
  have HBY := Lib.hid hby2
  have HS3 := Lib.hid (HS1.out.call hC hg)
  clear hown hC hg hby k0 hpc hlen hby2
  go_wp2_with fail
  have hS3 := HS3.out
  have j0 : W3.cell? ⟨hb, 0, none⟩ = some (.int .i64 (cd : Nat)) := cell_of_row _ _ 0 _ _ _ hS3.hd
  have j1 := cell_of_row _ _ 0 _ _ _ (hS3.store1 (n : Nat)).hd
  have c1 : W3.cell? ⟨wb, 1, none⟩ = some (.int .i64 size) := cell_of_row _ _ 1 _ _ _ hS3.wk
  have c2 : W3.cell? ⟨wb, 2, none⟩ = some (.bool false) := cell_of_row _ _ 2 _ _ _ hS3.wk
  have d2 : (W3.setCell ⟨wb, 1, none⟩ (.int .i64 (n : Nat))).cell? ⟨wb, 2, none⟩ = some (.bool false) := cell_of_row _ _ 2 _ _ _ (hS3.store1 (n : Nat)).wk
  have f1 : W3.frozen? ⟨wb, 1, none⟩ = false := frozen_of_row _ _ 1 _ _ hS3.wk
  have f2 : (W3.setCell ⟨wb, 1, none⟩ (.int .i64 (n : Nat))).frozen? ⟨wb, 2, none⟩ = false := frozen_of_row _ _ 2 _ _ (hS3.store1 (n : Nat)).wk
  have j2 := cell_of_row _ _ 0 _ _ _ ((hS3.store1 (n : Nat)).store2 ((cd : Int) == 16)).hd
  clear hS3
  go_region_held3 (fun w' => w'.cell? ⟨hb, 0, none⟩ = some (.int .i64 (cd : Nat)))
    (first
      | exact j0
      | exact j1
      | exact j2
      | go_keep)
    (fail)
  obtain ⟨W4, hW4⟩ : ∃ W, W = ((W3.setCell ⟨wb, 1, none⟩ (.int .i64 (n : Nat))).setCell ⟨wb, 2, none⟩ (.bool ((cd : Int) == 16))).drew := ⟨_, rfl⟩
  rw [← hW4]
  have HS4 := Lib.hid (show NxSt w W4 wb cb hb lo (n : Nat) ((cd : Int) == 16) b (at_ + n) cd nx pv by rw [hW4]; exact ((HS3.out.store1 (n : Nat)).store2 ((cd : Int) == 16)).later (Below.refl _ _).drew)
  have HBY4 := Lib.hid (show BytesAt W4 W2.heap.size (.slice (some ⟨g, 13, none⟩) (n - 13) (cap - 13)) (nextB b (at_ + 13) (n - 13)) by
    rw [hW4]
    exact (HBY.out.kept (ts := [93]) ((kept_set HS3.out.wk (by decide) (o := 1) (.int .i64 (n : Nat))).trans (kept_set (HS3.out.store1 (n : Nat)).wk (by decide) (o := 2) (.bool ((cd : Int) == 16)))) (by decide)).later (Below.refl _ _).drew)
  have k0 : W4.cell? ⟨hb, 0, none⟩ = some (.int .i64 (cd : Nat)) := cell_of_row _ _ 0 _ _ _ HS4.out.hd
  have k1 : W4.cell? ⟨w.heap.size, 0, none⟩ = some (.int .i64 0) := cell_of_row _ _ 0 _ _ _ HS4.out.rb
  have k2 : W4.cell? ⟨w.heap.size, 1, none⟩ = some (.slice none 0 0) := cell_of_row _ _ 1 _ _ _ HS4.out.rb
  have g1 : ∀ o, W4.frozen? ⟨w.heap.size, o, none⟩ = false := fun o => frozen_of_row _ _ o _ _ HS4.out.rb
  have hn1 : (13 : Int) ≤ (n : Int) := by omega
  have hn2 : (n : Int) ≤ (cap : Int) := by omega
  clear hW4 j0 j1 j2 c1 c2 d2 f1 f2 HS3 HBY
  have hsz2 := HS1.out.size
  have HSZ2 := Lib.hid hsz2
  clear hsz2
  have hlo : w.heap.size ≤ W2.heap.size := HSZ2.out
  by_cases hc13 : cap = 13
  · subst hc13
    obtain rfl : n = 13 := by omega
    clear k1 k2 g1
    go_wp2_with fail
    go_still_tail 5, (by kernel_rfl)
    go_wp2_with (refine wpList_store_row rfl 66 _ _ rfl _ #[.int .i64 (cd : Nat), .slice (some ⟨g, 0, none⟩) 0 0] rfl rfl _ _ HS4.out.rb info66 rfl (all2 _ _ _ _) ?_)
    have hby : BytesAt W4 w.heap.size (.slice (some ⟨g, 0, none⟩) 0 0) (nextB b (at_ + 13) (13 - 13)) := ⟨some ⟨g, 0, none⟩, 0, by simp [nextB], by simp [nextB], .inl (by simp [nextB])⟩
    exact bodyPost_ret (results_cell1 Try.results35 _ _ w.heap.size 66 #[.int .i64 (cd : Nat), .slice (some ⟨g, 0, none⟩) 0 0] _ _ rfl (setRow_heap _ _ _ _ _ _ HS4.out.rb) Try.underlying66 rfl info66) rfl (HS4.out.done hby)
  · have hc2 : ¬ (cap : Int) = 13 := by omega
    have hc3 : 13 < cap := by omega
    clear k1 k2 g1
    go_wp2_with fail
    go_still_tail 5, (by kernel_rfl)
    go_wp2_with (refine wpList_store_row rfl 66 _ _ rfl _ #[.int .i64 (cd : Nat), .slice (some ⟨g, 13, none⟩) (n - 13) (cap - 13)] rfl rfl _ _ HS4.out.rb info66 rfl (all2 _ _ _ _) ?_)
    exact bodyPost_ret (results_cell1 Try.results35 _ _ w.heap.size 66 #[.int .i64 (cd : Nat), .slice (some ⟨g, 13, none⟩) (n - 13) (cap - 13)] _ _ rfl (setRow_heap _ _ _ _ _ _ HS4.out.rb) Try.underlying66 rfl info66) rfl (HS4.out.done (HBY4.out.mono hlo))
end Go.Proofs.Ytbekkdlgibijdaa
