/- Bytes as they read; clones and cursors of them; a unit's head is read. -/
import Derived.Test.YtbekkdlgibijdaaUnA
import Derived.Laws.Tables
import Derived.Deep.DeepCutAuto
namespace Go.Proofs.Ytbekkdlgibijdaa
open Go.RowKit

/-- A slice whose cells read as these bytes. -/
def BytesR (w : World) (v : Value) (l : List UInt8) : Prop :=
  ∃ A c, v = .slice A l.length c ∧ l.length ≤ c ∧ ∃ g off, (l = [] ∨ A = some ⟨g, off, none⟩) ∧ ∀ j (hj : j < l.length), w.cell? ⟨g, off + j, none⟩ = some (bv l[j])
theorem BytesAt.reads {w : World} {lo : Nat} {v : Value} {l : List UInt8} (h : BytesAt w lo v l) : BytesR w v l := h.cell
theorem BytesC.reads {w : World} {v : Value} {l : List UInt8} (h : BytesC w v l) : BytesR w v l := by
  obtain ⟨A, c, hv, hc, _, h⟩ := h
  exact ⟨A, c, hv, hc, h⟩
theorem BytesR.later {w w' : World} {v : Value} {l : List UInt8} (h : BytesR w v l) (hb : Below w.heap.size w w') : BytesR w' v l := by
  obtain ⟨A, c, hv, hc, g, off, hA, hx⟩ := h
  exact ⟨A, c, hv, hc, g, off, hA, fun j hj => cell_later (hx j hj) hb⟩
theorem BytesR.str {w : World} {v : Value} {l : List UInt8} (h : BytesR w v l) : (convert 22 9 v).run Try.prog w = .ok (.string ⟨l.toArray⟩) w := by
  obtain ⟨A, c, rfl, hc, g, off, hA, hx⟩ := h
  cases A with
  | none =>
    obtain rfl : l = [] := by
      rcases hA with h | h
      · exact h
      · cases h
    exact run_convert_bytes_nil w 22 5 Try.underlying22 Try.underlying5 _ _ 9 Try.underlying9
  | some ad =>
    refine run_convert_bytes_back w 22 9 5 ad c l Try.underlying22 Try.underlying5 Try.underlying9 (fun j hj => ?_)
    rcases hA with h | h
    · rw [h] at hj; simp at hj
    · cases h
      have : (⟨g, off, none⟩ : Addr).add j = ⟨g, off + j, none⟩ := by unfold Addr.add; split <;> simp_all
      rw [this]
      exact hx j hj
set_option maxHeartbeats 1000000 in
theorem clone_r (v : Value) (l : List UInt8) (w : World) (h : BytesR w v l) (hl : l.length ≤ 4294967296) :
    Calls Try.prog 43 #[v] w fun e w' => ∃ v', e = .returned v' ∧ w'.ownsRow w.heap.size 5 1 v' l.length (l.map bv) ∧ Below w.heap.size w w' := by
  obtain ⟨i0, hi, hz0, hz1, hz2⟩ := info_parts info5
  obtain ⟨A, c, rfl, hc, g, off, hA, hx⟩ := h
  have heq := fun w' => Lib.run_eql_slice_nil (P := Try.prog) w' 22 5 A l.length c 0 0 Try.underlying22
  cases A with
  | none =>
    obtain rfl : l = [] := by
      rcases hA with h | h
      · exact h
      · cases h
    clear hl hc hx hA
    simp only [List.length_nil, Option.isNone_none] at heq ⊢
    go_enter Try.func43, Try.ntmps43
    go_wp2
    go_ret
    exact ⟨_, rfl, World.ownsRow_nil _ _ _ _, Below.refl _ _⟩
  | some ad =>
    have hn := news_at hA rfl (w := w.alloc (.cells #[] 5)) (fun j hj => keep_alloc (hx j hj) _)
    have HN := Lib.hid hn
    clear hn hx hA
    go_enter Try.func43, Try.ntmps43
    go_wp2_with (at_builtin; refine wpList_append_own _ rfl _ _ 22 rfl w.heap.size 5 i0 (.int .u8 0) 1 1 Try.underlying22 hi hz0 hz1 hz2 rfl (by decide) _ 0 [] rfl (own_empty w _ (Nat.le_refl _)) ad l.length c (l.map bv) rfl (by simp) HN.out (bv_one l) (by unfold maxLen; omega) (by omega) (by simp) ?_; intro v' w1 hown hgrow _)
    go_ret
    refine ⟨_, rfl, by simpa using hown, (((Below.refl _ w).alloc (Nat.le_refl _) _).grown hgrow (by simp) (fun k hk => ?_))⟩
    cases hk
    exact Nat.le_refl _
set_option maxHeartbeats 1000000 in
theorem new_r (v : Value) (l : List UInt8) (w : World) (h : BytesR w v l) (hl : l.length ≤ 4294967296) :
    Calls Try.prog 12 #[v] w fun e w' => ∃ cb, e = .returned (.pointer (some ⟨cb, 0, none⟩)) ∧ w.heap.size ≤ cb ∧ Cur w' w.heap.size cb l 0 ∧ Below w.heap.size w w' := by
  have HH := Lib.hid h
  obtain ⟨A, c, rfl, _, _⟩ := h
  go_enter Try.func12, Try.ntmps12
  go_wp2_with (go_at_call 43; refine (clone_r _ l _ HH.out hl).mono ?_; rintro e w1 ⟨v', rfl, hown, hbel⟩; have H1 := Lib.hid hown; have H2 := Lib.hid hbel; obtain ⟨A1, c1, rfl, _, _⟩ := bytes_of_own hown; clear hown hbel)
  go_ret
  have hs := H2.out.size
  refine ⟨w1.heap.size, rfl, hs, ⟨_, heap_alloc_new _ _, (bytes_of_own H1.out).later ((Below.refl _ _).alloc (Nat.le_refl _) _), Nat.zero_le _⟩, H2.out.alloc (by omega) _⟩

/-- a piece of bytes -/
theorem BytesR.piece {w : World} {g off c n : Nat} {l : List UInt8} (h : BytesR w (.slice (some ⟨g, off, none⟩) n c) l) (i m : Nat) (hi : i + m ≤ l.length) : BytesR w (.slice (some ⟨g, off + i, none⟩) m (c - i)) (nextB l i m) := by
  obtain ⟨A, c', hv, hc, g', off', hA, hx⟩ := h
  injection hv with h1 h2 h3
  subst h3
  have hl : (nextB l i m).length = m := nextB_len hi
  refine ⟨_, _, by rw [hl], by rw [hl]; omega, g, off + i, .inr rfl, fun j hj => ?_⟩
  rw [hl] at hj
  have hne : l ≠ [] := by intro e; rw [e] at hi; simp at hi; omega
  rcases hA with h | h
  · exact absurd h hne
  · rw [← h1] at h
    cases h
    rw [Nat.add_assoc, hx (i + j) (by omega)]
    simp [nextB]
/-! A unit's head. -/
def markB : List UInt8 := [66, 66, 67, 68]
def hCode (h : List UInt8) : Nat := numB (nextB h 4 1)
def hNext (h : List UInt8) : Nat := numB (nextB h 5 4)
def hPrev (h : List UInt8) : Nat := numB (nextB h 9 4)
theorem results_cell1 {P : Program} {fn : Func} {p q : Tmp} {ty : TypeId} (h : fn.results = #[.cell p ty, .tmp q]) (tmps : Array Value) (w : World) (g : Nat) (t : TypeId) (cs : Array Value) (fr : Nat × Nat) (d : TypeDesc)
    (hp : tmps.getD p undef = .pointer (some ⟨g, 0, none⟩)) (hg : w.heap[g]? = some (.cells cs t fr))
    (hu : P.underlying ty = some d) (hd : (match d with | .struct _ | .array _ _ => true | _ => false) = true) (hi : (P.info? ty).map (·.size) = some cs.size) :
    (results fn tmps).run P w = .ok (.tuple #[.agg cs, tmps.getD q undef]) w := by
  have hp' : tmps[p]?.getD undef = .pointer (some ⟨g, 0, none⟩) := by simpa using hp
  simp [results, h, hp', asAddr, run_loadVar_row w g t ty cs fr d hg hu hd hi]
theorem results_cell2 {P : Program} {fn : Func} {p q r : Tmp} {ty : TypeId} (h : fn.results = #[.cell p ty, .tmp q, .tmp r]) (tmps : Array Value) (w : World) (g : Nat) (t : TypeId) (cs : Array Value) (fr : Nat × Nat) (d : TypeDesc)
    (hp : tmps.getD p undef = .pointer (some ⟨g, 0, none⟩)) (hg : w.heap[g]? = some (.cells cs t fr))
    (hu : P.underlying ty = some d) (hd : (match d with | .struct _ | .array _ _ => true | _ => false) = true) (hi : (P.info? ty).map (·.size) = some cs.size) :
    (results fn tmps).run P w = .ok (.tuple #[.agg cs, tmps.getD q undef, tmps.getD r undef]) w := by
  have hp' : tmps[p]?.getD undef = .pointer (some ⟨g, 0, none⟩) := by simpa using hp
  simp [results, h, hp', asAddr, run_loadVar_row w g t ty cs fr d hg hu hd hi]
theorem info95 : (Try.prog.info? 95).map (·.size) = some 3 := by kernel_rfl
theorem all3 (a b c : Int) : (#[Value.int .i64 a, .int .i64 b, .int .i64 c] : Array Value).all (·.oneCell') = true := by simp [Value.oneCell']
theorem info66 : (Try.prog.info? 66).map (·.size) = some 2 := by kernel_rfl
theorem nextB_nextB {l : List UInt8} {a b i m : Nat} (h : i + m ≤ b) : nextB (nextB l a b) i m = nextB l (a + i) m := by
  unfold nextB
  rw [List.drop_take, List.take_take, List.drop_drop]
  congr 1
  omega
set_option maxRecDepth 4000 in
set_option maxHeartbeats 1000000 in
theorem read_not (g off c : Nat) (h : List UInt8) (w : World) (hh : BytesR w (.slice (some ⟨g, off, none⟩) 13 c) h) (h13 : h.length = 13) (hne : nextB h 0 4 ≠ markB) :
    Calls Try.prog 52 #[.slice (some ⟨g, off, none⟩) 13 c] w fun e w' => e = .returned (.tuple #[.agg #[.int .i64 0, .int .i64 0, .int .i64 0], .int .i64 270]) ∧ Below w.heap.size w w' := by
  have hB := (Below.refl w.heap.size w).alloc (Nat.le_refl _) (.cells #[.int .i64 0, .int .i64 0, .int .i64 0] 95)
  have hs := ((hh.later hB).piece 0 4 (by omega)).str
  have hc : 4 ≤ c := by obtain ⟨_, _, hv, hc, _⟩ := hh; injection hv with _ _ h3; subst h3; omega
  obtain ⟨S, hS⟩ : ∃ S, S = nextB h 0 4 := ⟨_, rfl⟩
  rw [← hS] at hs hne
  have hn : (S == [66, 66, 67, 68]) = false := by simpa [markB] using hne
  simp only [Nat.add_zero, Nat.sub_zero] at hs
  have HB := Lib.hid hB
  clear hh h13 hne hS hB
  go_enter Try.func52, Try.ntmps52
  go_wp2_with fail
  exact bodyPost_ret (results_cell1 Try.results52 _ _ w.heap.size 95 _ _ _ rfl (heap_alloc_new w _) Try.underlying95 rfl info95) rfl ⟨rfl, HB.out⟩
/-- while a head is read: the cursor, the head's block, the result's block -/
structure RdSt (w V : World) (lo cb hb : Nat) (T : List UInt8) (k : Nat) (x y z : Value) : Prop where
  cur : Cur V lo cb T k
  hd : V.heap[hb]? = some (.cells #[x, y, z] 95 (0, 0))
  rb : V.heap[w.heap.size]? = some (.cells #[.int .i64 0, .int .i64 0, .int .i64 0] 95 (0, 0))
  below : Below w.heap.size w V
  n1 : w.heap.size < cb
  n2 : w.heap.size < hb
  n3 : hb ≠ cb
theorem RdSt.call {w V V' : World} {lo cb hb k k' : Nat} {T : List UInt8} {x y z : Value} (h : RdSt w V lo cb hb T k x y z) (hC : Cur V' lo cb T k') (hg : V.grownBy V' (some cb)) : RdSt w V' lo cb hb T k' x y z where
  cur := hC
  hd := (hg.block hb (block_lt h.hd) (fun e => h.n3 (Option.some.inj e))).trans h.hd
  rb := (hg.block _ (block_lt h.rb) (fun e => by have := h.n1; cases e; omega)).trans h.rb
  below := below_grown2 h.below hg h.below.size (by have := h.n1; omega)
  n1 := h.n1
  n2 := h.n2
  n3 := h.n3
theorem RdSt.store {w V : World} {lo cb hb k : Nat} {T : List UInt8} {x y z : Value} (h : RdSt w V lo cb hb T k x y z) (o : Nat) (v : Value) {x' y' z' : Value} (ha : #[x, y, z].setIfInBounds o v = #[x', y', z']) : RdSt w (V.setCell ⟨hb, o, none⟩ v) lo cb hb T k x' y' z' where
  cur := h.cur.grown (grown_set V hb o v) h.n3 (.inr ⟨_, 95, _, h.hd, by decide⟩)
  hd := by rw [← ha]; exact heap_setCell_same _ _ o _ _ _ h.hd
  rb := (heap_setCell_other _ _ _ _ (by have := h.n2; simp; omega)).trans h.rb
  below := h.below.setCell (by have := h.n2; simp; omega) _
  n1 := h.n1
  n2 := h.n2
  n3 := h.n3
theorem below_setRow {B : Nat} (w : World) (g : Nat) (cs : Array Value) (h : B ≤ g) : Below B w (w.setRow g cs) :=
  ⟨rfl, rfl, rfl, by simp, fun k hk => setRow_other w g k cs (by omega)⟩
theorem nextB_drop (T : List UInt8) (a m : Nat) : (T.drop a).take m = nextB T a m := rfl
set_option maxRecDepth 4000 in
set_option maxHeartbeats 2000000 in
theorem read_yes (g off c : Nat) (h : List UInt8) (w : World) (hh : BytesR w (.slice (some ⟨g, off, none⟩) 13 c) h) (h13 : h.length = 13) (heq : nextB h 0 4 = markB) :
    Calls Try.prog 52 #[.slice (some ⟨g, off, none⟩) 13 c] w fun e w' => e = .returned (.tuple #[.agg #[.int .i64 (hCode h : Nat), .int .i64 (hNext h : Nat), .int .i64 (hPrev h : Nat)], .int .i64 0]) ∧ Below w.heap.size w w' := by
  have hB := (Below.refl w.heap.size w).alloc (Nat.le_refl _) (.cells #[.int .i64 0, .int .i64 0, .int .i64 0] 95)
  have hr := heap_alloc_new w (.cells #[.int .i64 0, .int .i64 0, .int .i64 0] 95)
  have hs := ((hh.later hB).piece 0 4 (by omega)).str
  have hp := (hh.later hB).piece 4 9 (by omega)
  have hc : 4 ≤ c ∧ 13 ≤ c := by obtain ⟨_, _, hv, hc, _⟩ := hh; injection hv with _ _ h3; subst h3; omega
  obtain ⟨hc, hc13⟩ := hc
  have hc2 : ¬ c = 4 := by omega
  have hc3 : 4 < c := by omega
  obtain ⟨S, hS⟩ : ∃ S, S = nextB h 0 4 := ⟨_, rfl⟩
  rw [← hS] at hs heq
  have hn : (S == [66, 66, 67, 68]) = true := by simpa [markB] using heq
  simp only [Nat.add_zero, Nat.sub_zero] at hs
  obtain ⟨T, hT⟩ : ∃ T, T = nextB h 4 9 := ⟨_, rfl⟩
  rw [← hT] at hp
  have hT9 : T.length = 9 := by rw [hT]; exact nextB_len (by omega)
  have e1 : hCode h = numB (nextB T 0 1) := by rw [hT, nextB_nextB (by omega)]; rfl
  have e2 : hNext h = numB (nextB T 1 4) := by rw [hT, nextB_nextB (by omega)]; rfl
  have e3 : hPrev h = numB (nextB T 5 4) := by rw [hT, nextB_nextB (by omega)]; rfl
  rw [e1, e2, e3]
  have HP := Lib.hid hp
  have HR := Lib.hid hr
  have HB := Lib.hid hB
  have H9 := Lib.hid hT9
  clear hh h13 heq hS hB hT e1 e2 e3 hp hT9 hr
  go_enter Try.func52, Try.ntmps52
  go_wp2_with fail
  refine (new_r _ T _ HP.out (by rw [H9.out]; decide)).mono ?_
  rintro e w1 ⟨cb, rfl, hcb, hC, hB1⟩
  have hS1 : RdSt w (w1.alloc (.cells #[.int .i64 0, .int .i64 0, .int .i64 0] 95)) (w.heap.size + 1) cb w1.heap.size T 0 (.int .i64 0) (.int .i64 0) (.int .i64 0) := by
    have hsz := hB1.size
    rw [World.size_alloc] at hsz hcb
    have hlt := hC.lt
    rw [World.size_alloc] at hC
    exact ⟨hC.later ((Below.refl _ w1).alloc (Nat.le_refl _) _), heap_alloc_new _ _, block_later (block_later HR.out hB1) ((Below.refl _ w1).alloc (Nat.le_refl _) _), (HB.out.trans (hB1.mono (by simp))).alloc (by omega) _, by omega, by omega, by omega⟩
  obtain ⟨hb, hhb⟩ : ∃ hb, hb = w1.heap.size := ⟨_, rfl⟩
  rw [← hhb] at hS1
  have HS1 := Lib.hid hS1
  have HHB := Lib.hid hhb
  clear hcb hC hB1 hS1 hhb hs
  go_wp2_with fail
  rw [← HHB.out]
  obtain ⟨W1, hW1⟩ : ∃ W1, W1 = w1.alloc (.cells #[.int .i64 0, .int .i64 0, .int .i64 0] 95) := ⟨_, rfl⟩
  rw [← hW1]
  rw [← hW1] at HS1
  clear hW1 HHB
  refine (byte_yes2 HS1.out.cur (by rw [H9.out]; decide) (by rw [H9.out]; decide)).mono ?_
  rw [nextB_drop]
  obtain ⟨N1, hN1⟩ : ∃ N, N = numB (nextB T 0 1) := ⟨_, rfl⟩
  rw [← hN1]
  rintro e W2 ⟨rfl, hC, hg⟩
  have HN1 := Lib.hid hN1
  have HS2 := Lib.hid (HS1.out.call hC hg)
  have k0 := cell_of_row _ _ 0 _ _ _ HS2.out.hd
  have f0 := frozen_of_row _ _ 0 _ _ HS2.out.hd
  clear hC hg HS1 hN1
  go_wp2_with fail
  obtain ⟨W3, hW3⟩ : ∃ W, W = W2.setCell ⟨hb, 0, none⟩ (.int .i64 (N1 : Nat)) := ⟨_, rfl⟩
  rw [← hW3]
  have HS3 := Lib.hid (show RdSt w W3 (w.heap.size + 1) cb hb T 1 (.int .i64 (N1 : Nat)) (.int .i64 0) (.int .i64 0) by rw [hW3]; exact HS2.out.store 0 _ rfl)
  clear hW3 HS2 k0 f0
  refine (word_yes2 HS3.out.cur (by rw [H9.out]; decide) (by rw [H9.out]; decide)).mono ?_
  rw [nextB_drop]
  obtain ⟨N2, hN2⟩ : ∃ N, N = numB (nextB T 1 4) := ⟨_, rfl⟩
  rw [← hN2]
  rintro e W4 ⟨rfl, hC, hg⟩
  have HN2 := Lib.hid hN2
  have HS4 := Lib.hid (HS3.out.call hC hg)
  have k0 := cell_of_row _ _ 1 _ _ _ HS4.out.hd
  have f0 := frozen_of_row _ _ 1 _ _ HS4.out.hd
  clear hC hg HS3 hN2
  go_wp2_with fail
  obtain ⟨W5, hW5⟩ : ∃ W, W = W4.setCell ⟨hb, 1, none⟩ (.int .i64 (N2 : Nat)) := ⟨_, rfl⟩
  rw [← hW5]
  have HS5 := Lib.hid (show RdSt w W5 (w.heap.size + 1) cb hb T 5 (.int .i64 (N1 : Nat)) (.int .i64 (N2 : Nat)) (.int .i64 0) by rw [hW5]; exact HS4.out.store 1 _ rfl)
  clear hW5 HS4 k0 f0
  refine (word_yes2 HS5.out.cur (by rw [H9.out]; decide) (by rw [H9.out]; decide)).mono ?_
  rw [nextB_drop]
  obtain ⟨N3, hN3⟩ : ∃ N, N = numB (nextB T 5 4) := ⟨_, rfl⟩
  rw [← hN3]
  rintro e W6 ⟨rfl, hC, hg⟩
  have HN3 := Lib.hid hN3
  have HS6 := Lib.hid (HS5.out.call hC hg)
  have k0 := cell_of_row _ _ 2 _ _ _ HS6.out.hd
  have f0 := frozen_of_row _ _ 2 _ _ HS6.out.hd
  clear hC hg HS5 hN3
  go_upto_region 8 with fail
  obtain ⟨W7, hW7⟩ : ∃ W, W = W6.setCell ⟨hb, 2, none⟩ (.int .i64 (N3 : Nat)) := ⟨_, rfl⟩
  rw [← hW7]
  have HS7 := Lib.hid (show RdSt w W7 (w.heap.size + 1) cb hb T 9 (.int .i64 (N1 : Nat)) (.int .i64 (N2 : Nat)) (.int .i64 (N3 : Nat)) by rw [hW7]; exact HS6.out.store 2 _ rfl)
  clear hW7 HS6 k0 f0
  go_wp2_with (first
    | (refine wpList_load_row rfl 95 _ rfl _ rfl _ _ _ _ HS7.out.hd Try.underlying95 rfl info95 ?_)
    | (refine wpList_store_row rfl 95 _ _ rfl _ #[.int .i64 (N1 : Nat), .int .i64 (N2 : Nat), .int .i64 (N3 : Nat)] rfl rfl _ _ HS7.out.rb info95 rfl (all3 _ _ _) ?_))
  refine bodyPost_ret (results_cell1 Try.results52 _ _ w.heap.size 95 #[.int .i64 (N1 : Nat), .int .i64 (N2 : Nat), .int .i64 (N3 : Nat)] _ _ rfl (setRow_heap _ _ _ _ _ _ HS7.out.rb) Try.underlying95 rfl info95) rfl ⟨?_, HS7.out.below.trans (below_setRow _ _ _ (Nat.le_refl _))⟩
  rw [← HN1.out, ← HN2.out, ← HN3.out]
  rfl
end Go.Proofs.Ytbekkdlgibijdaa
