/- A pen's calls, with the word that blocks of other types stay. -/
import Derived.Test.YtbekkdlgibijdaaCuO
namespace Go.Proofs.Ytbekkdlgibijdaa
open Go.RowKit

/-- Blocks of types other than bytes and pens stay. -/
def Typed (w w' : World) : Prop := ∀ (k : Nat) (cs : Array Value) (t : TypeId) (fr : Nat × Nat), w.heap[k]? = some (.cells cs t fr) → t ≠ 5 → t ≠ 47 → w'.heap[k]? = some (.cells cs t fr)
theorem typed_refl (w : World) : Typed w w := fun _ _ _ _ h _ _ => h
theorem Typed.trans {a b c : World} (h : Typed a b) (k : Typed b c) : Typed a c := fun i cs t fr e h5 h47 => k i cs t fr (h i cs t fr e h5 h47) h5 h47
theorem typed_below {a b : World} (h : Below a.heap.size a b) : Typed a b := fun i _ _ _ e _ _ => (h.block i (block_lt e)).trans e
theorem typed_alloc (w : World) (o : Obj) : Typed w (w.alloc o) := typed_below ((Below.refl _ w).alloc (Nat.le_refl _) o)
theorem typed_grown {a b : World} {row : Option Nat} (h : a.grownBy b row) (hr : ∀ g, row = some g → ∃ cur, a.heap[g]? = some (.cells cur 5 (0, 0))) : Typed a b := fun i cs t fr e h5 _ => by
  refine (h.block i (block_lt e) (fun e2 => ?_)).trans e
  obtain ⟨cur, hc⟩ := hr i e2.symm
  rw [e] at hc; cases hc; exact h5 rfl
theorem typed_store {w : World} {B o : Nat} {cs : Array Value} {fr : Nat × Nat} (hb : w.heap[B]? = some (.cells cs 47 fr)) (v : Value) : Typed w (w.setCell ⟨B, o, none⟩ v) := fun i cs' t fr' e _ h47 => by
  refine (heap_setCell_other _ _ _ _ (fun e2 => ?_)).trans e
  have e3 : i = B := e2
  subst e3
  rw [hb] at e; cases e; exact h47 rfl
theorem pen_stored3 {w w1 : World} {B : Nat} {v v' : Value} {l' : List UInt8} (ht : Typed w w1) (hb : w.heap[B]? = some (.cells #[v] 47 (0, 0)))
    (hbel : Below (B + 1) w w1) (hr' : w1.ownsRow (B + 1) 5 1 v' l'.length (l'.map bv)) : PenAt (w1.setCell ⟨B, 0, none⟩ v') B l' ∧ Below B w (w1.setCell ⟨B, 0, none⟩ v') ∧ Typed w (w1.setCell ⟨B, 0, none⟩ v') := by
  obtain ⟨h1, h2⟩ := pen_stored hb hbel hr'
  exact ⟨h1, h2, ht.trans (typed_store ((hbel.block _ (by omega)).trans hb) _)⟩
set_option maxRecDepth 4000 in
set_option maxHeartbeats 1000000 in
theorem penB_typed {w : World} {B : Nat} {l : List UInt8} (m : Nat) (hm : m < 256) (h : PenAt w B l) (hl : l.length ≤ 4294967296) :
    Calls Try.prog 21 #[.pointer (some ⟨B, 0, none⟩), .int .i64 (m : Nat)] w fun e w' => e = .returned (.bool true) ∧ PenAt w' B (l ++ [UInt8.ofNat m]) ∧ Below B w w' ∧ Typed w w' := by
  obtain ⟨v, hb, hr⟩ := h
  obtain ⟨i0, hi, hz0, hz1, hz2⟩ := info_parts info5
  have k0 : w.cell? ⟨B, 0, none⟩ = some v := cell_of_row _ _ 0 _ _ _ hb
  have hBl := block_lt hb
  have H1 := Lib.hid hb
  have H2 := Lib.hid hr
  have q0 : ((m : Nat) : Int) < 256 := by omega
  have q1 : ¬ ((m : Nat) : Int) < 0 := by omega
  have q2 : ((m : Nat) : Int) ≤ 255 := by omega
  have q3 : (0 : Int) ≤ ((m : Nat) : Int) := by omega
  have q4 : [Value.int .u8 (m : Nat)] = [UInt8.ofNat m].map bv := by
    simp only [List.map_cons, List.map_nil, bv_ofNat]; rw [Nat.mod_eq_of_lt hm]
  have Q4 := Lib.hid q4
  clear hb hr q4
  go_enter Try.func21, Try.ntmps21
  go_wp2_with (at_builtin; refine wpList_append_own _ rfl _ _ 22 rfl (B + 1) 5 i0 (.int .u8 0) 1 1 Try.underlying22 hi hz0 hz1 hz2 rfl (by decide) v l.length (l.map bv) rfl (H2.out.alloc _) ⟨w.heap.size, 0, none⟩ 1 1 [.int .u8 (m : Nat)] rfl rfl (World.news_of_block (heap_alloc_new w _)) (by simp [Value.oneCell']) (by unfold maxLen; omega) (by omega) (by simp; omega) ?_; intro v' w1 hown hgrow _; rw [Q4.out] at hown; have HO := Lib.hid (pen_app (m := [UInt8.ofNat m]) hown); have HT := Lib.hid ((typed_alloc w _).trans (typed_grown hgrow (fun g hg => own_block5 (H2.out.alloc _) g hg))); have HB := Lib.hid (((Below.refl (B + 1) w).alloc (Nat.succ_le_of_lt hBl) _).grown hgrow (by simp; omega) (fun k hk => (H2.out.lt k hk).1)); have hb1 := (HB.out.block B (Nat.lt_succ_self B)).trans H1.out; have k1 := cell_of_row _ _ 0 _ _ _ hb1; have f1 := frozen_of_row _ _ 0 _ _ hb1; obtain ⟨A, c, rfl, _, _⟩ := bytes_of_own HO.out; clear hown hgrow hb1)
  go_ret
  exact ⟨rfl, pen_stored3 HT.out (l' := l ++ [UInt8.ofNat m]) H1.out HB.out (by simpa only [List.length_append, List.length_singleton] using HO.out)⟩

set_option maxRecDepth 4000 in
set_option maxHeartbeats 1000000 in
theorem penW_typed {w : World} {B : Nat} {l : List UInt8} (m : Nat) (hm : m < 4294967296) (h : PenAt w B l) (hl : l.length ≤ 4294967296) :
    Calls Try.prog 22 #[.pointer (some ⟨B, 0, none⟩), .int .i64 (m : Nat)] w fun e w' => e = .returned (.bool true) ∧ PenAt w' B (l ++ spellB m) ∧ Below B w w' ∧ Typed w w' := by
  obtain ⟨v, hb, hr⟩ := h
  obtain ⟨A, c, rfl, _, _⟩ := bytes_of_own hr
  obtain ⟨i0, hi, hz0, hz1, hz2⟩ := info_parts info5
  have k0 : w.cell? ⟨B, 0, none⟩ = some (.slice A l.length c) := cell_of_row _ _ 0 _ _ _ hb
  have hBl := block_lt hb
  have H1 := Lib.hid hb
  have H2 := Lib.hid hr
  have hR := fun w => right_cut (m : Nat) w
  rw [show decide ((0 : Int) ≤ (m : Nat) ∧ ((m : Nat) : Int) < 4294967296) = true by simp; omega] at hR
  have HR := Lib.hid hR
  clear hb hr hR
  go_enter Try.func22, Try.ntmps22
  go_wp2_with (go_at_call 46; refine (HR.out _).mono ?_; rintro e w1 ⟨rfl, rfl⟩)
  go_region_law (first
    | (go_simp; go_at_call 47; refine (spell_any m hm _).mono ?_; rintro e w1 ⟨rfl, rfl⟩)
    | (refine step_append_lies _ (by rfl) _ _ _ (by rfl) (B + 1) 5 i0 (.int .u8 0) 1 1 Try.underlying22 hi hz0 hz1 hz2 rfl (by decide) (.slice A l.length c) l.length (l.map bv) (by rfl) ((H2.out.alloc _).drew) ⟨w.heap.size, 0, none⟩ 4 4 ((spellB m).map bv) (by rfl) (by rfl) (World.news_of_block (heap_alloc_new w _)) (bv_one _) (by decide) (by unfold maxLen; omega) (by omega) (by simp; omega) (w.heap.size + 1) (by simp) ?_; intro gg cap w3 hown hgrow hat hlt; have HO := Lib.hid (pen_app (m := spellB m) hown); have HT := Lib.hid ((typed_below (((Below.refl _ w).alloc (Nat.le_refl _) _).drew)).trans (typed_grown hgrow (fun g hg => own_block5 ((H2.out.alloc _).drew) g hg))); have HB := Lib.hid ((((Below.refl (B + 1) w).alloc (Nat.succ_le_of_lt hBl) _).drew).grown hgrow (by simp; omega) (fun k hk => (H2.out.lt k hk).1)); have hb1 := (HB.out.block B (Nat.lt_succ_self B)).trans H1.out; have k1 := cell_of_row _ _ 0 _ _ _ hb1; have f1 := frozen_of_row _ _ 0 _ _ hb1; clear hown hgrow hb1 hat hlt))
  all_goals go_wp2
  all_goals go_ret
  all_goals exact ⟨rfl, pen_stored3 HT.out (l' := l ++ spellB m) H1.out HB.out HO.out⟩
set_option maxRecDepth 4000 in
set_option maxHeartbeats 1000000 in
theorem add_typed {w : World} {B : Nat} {l x : List UInt8} {xv : Value} (h : PenAt w B l) (hx : BytesC w xv x) (hl : l.length + x.length ≤ 4294967296) :
    Calls Try.prog 24 #[.pointer (some ⟨B, 0, none⟩), xv] w fun e w' => (∃ v, e = .returned v) ∧ PenAt w' B (l ++ x) ∧ Below B w w' ∧ Typed w w' := by
  obtain ⟨v, hb, hr⟩ := h
  obtain ⟨i0, hi, hz0, hz1, hz2⟩ := info_parts info5
  have k0 : w.cell? ⟨B, 0, none⟩ = some v := cell_of_row _ _ 0 _ _ _ hb
  have f0 := frozen_of_row _ _ 0 _ _ hb
  have hBl := block_lt hb
  have H1 := Lib.hid hb
  have H2 := Lib.hid hr
  obtain ⟨A, c, rfl, hc, hnil, g, off, hA, hxx⟩ := hx
  cases A with
  | none =>
    obtain rfl : x = [] := by
      rcases hA with h | h
      · exact h
      · cases h
    obtain ⟨A1, c1, rfl, _, _⟩ := bytes_of_own hr
    obtain rfl := hnil rfl
    clear hnil hb hr hxx hA hc
    go_enter Try.func24, Try.ntmps24
    go_wp2_with (at_builtin; refine wpList_append_own_none rfl _ _ 22 rfl (B + 1) 5 i0 1 Try.underlying22 hi (.slice A1 l.length c1) l.length (l.map bv) rfl H2.out rfl ?_)
    go_end0
    refine ⟨⟨_, rfl⟩, ?_⟩
    rw [List.append_nil]
    exact pen_stored3 (typed_refl w) H1.out (Below.refl _ w) H2.out
  | some ad =>
    have HN := Lib.hid (news_at hA rfl hxx)
    clear hnil hb hr hxx hA
    go_enter Try.func24, Try.ntmps24
    go_wp2_with (at_builtin; refine wpList_append_own _ rfl _ _ 22 rfl (B + 1) 5 i0 (.int .u8 0) 1 1 Try.underlying22 hi hz0 hz1 hz2 rfl (by decide) v l.length (l.map bv) rfl H2.out ad x.length c (x.map bv) rfl (by simp) HN.out (bv_one x) (by unfold maxLen; omega) (by omega) (by omega) ?_; intro v' w1 hown hgrow _; have HO := Lib.hid (pen_app (m := x) hown); have HT := Lib.hid (typed_grown hgrow (own_block5 H2.out)); have HB := Lib.hid ((Below.refl (B + 1) w).grown hgrow (by omega) (fun k hk => (H2.out.lt k hk).1)); have hb1 := (HB.out.block B (Nat.lt_succ_self B)).trans H1.out; have k1 := cell_of_row _ _ 0 _ _ _ hb1; have f1 := frozen_of_row _ _ 0 _ _ hb1; obtain ⟨A1, c1, rfl, _, _⟩ := bytes_of_own HO.out; clear hown hgrow hb1)
    go_end0
    exact ⟨⟨_, rfl⟩, pen_stored3 HT.out (l' := l ++ x) H1.out HB.out (by simpa only [List.length_append] using HO.out)⟩
end Go.Proofs.Ytbekkdlgibijdaa
