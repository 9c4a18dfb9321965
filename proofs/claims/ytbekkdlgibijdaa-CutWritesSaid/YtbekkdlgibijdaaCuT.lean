/- Patch, with the word that blocks of other types stay. -/
import Derived.Test.YtbekkdlgibijdaaCuP
namespace Go.Proofs.Ytbekkdlgibijdaa
open Go.RowKit

/-- a copy into a row that is known whole, as one step of a region that draws; the world behind it: only that row may differ -/
theorem step_copy_row {ops : Array Oper} {o : Oper} {a : Act} {w : World} {K : Act → World → Prop} {Q : Exit → Act → World → Prop} {E : Prop} (hgd : o.guard = none) (d s : Operand) (dT sT : TypeId)
    (ho : o.op = .call { callee := .builtin .copy, args := #[d, s], argTypes := #[dT, sT] }) (elem : TypeId) (hu : Try.prog.underlying dT = some (.slice elem)) (hsz : (Try.prog.info? elem).map (·.size) = some 1)
    (g off dLen dCap : Nat) (ad : Addr) (sLen sCap : Nat) (hd : a.eval d = .slice (some ⟨g, off, none⟩) dLen dCap) (hs : a.eval s = .slice (some ad) sLen sCap)
    (cur : Array Value) (t : TypeId) (hg : w.heap[g]? = some (.cells cur t (0, 0))) (cs : List Value) (hn : cs.length = Nat.min sLen dLen)
    (hsrc : ∀ j v, cs[j]? = some v → w.cell? (ad.add j) = some v) (hfit : off + cs.length ≤ cur.size) (h1 : ∀ v ∈ cs, v.oneCell' = true)
    (h : ∀ w', Hid (w'.heap[g]? = some (.cells (splice cur.toList off cs).toArray t (0, 0))) → ((∀ B, B ≤ g → Below B w w') ∧ ((∃ cur, w.heap[g]? = some (.cells cur 5 (0, 0))) → Typed w w')) → K (a.put o.dst (goInt cs.length)) w') :
    if Region.wanted o (yielded ops a.tmps) = true then Oper.wp Try.prog o a w K Q else E := by
  have hw : Region.wanted o (yielded ops a.tmps) = true := by simp [Region.wanted, hgd]
  rw [if_pos hw]
  have hrun := run_copy_row (P := Try.prog) w dT sT o.type elem g off dLen dCap ad sLen sCap cur t cs hu hsz hg hn hsrc hfit h1
  unfold Oper.wp
  simp [execOp, ho, resolve, invoke, builtin, hd, hs, hrun, Result.andThen]
  refine h _ (show _ = _ by simpa [splice] using setRow_heap w g _ _ t _ hg) ⟨fun B hB => below_setRow (Below.refl B w) hB _, fun ⟨cur2, hc⟩ => fun i cs' t' fr e h5 _ => ?_⟩
  refine (setRow_other w g i _ (fun e2 => ?_)).trans e
  subst e2
  rw [hc] at e; cases e; exact h5 rfl
set_option maxRecDepth 4000 in
set_option maxHeartbeats 1000000 in
theorem patch_typed {w : World} {B : Nat} {l : List UInt8} (n m : Nat) (hm : m < 4294967296) (h : PenAt w B l) (hl : l.length ≤ 4294967296) (hn : n + 4 ≤ l.length) :
    Calls Try.prog 25 #[.pointer (some ⟨B, 0, none⟩), .int .i64 (n : Nat), .int .i64 (m : Nat)] w fun e w' => e = .returned (.bool true) ∧ PenAt w' B (splice l n (spellB m)) ∧ Below (B + 1) w w' ∧ Typed w w' := by
  obtain ⟨v, hb, hr⟩ := h
  have k0 : w.cell? ⟨B, 0, none⟩ = some v := cell_of_row _ _ 0 _ _ _ hb
  have hBl := block_lt hb
  have hr2 := hr.2
  clear hr
  rcases hr2 with ⟨_, h0⟩ | ⟨g, cap, cur, rfl, hg, hh, hcap, hmax, hsz, htk⟩
  · omega
  have hgl := block_lt hh
  have H1 := Lib.hid hb
  have HK := Lib.hid htk
  have HG : Hid (w.heap[g]? = some (.cells cur.toList.toArray 5 (0, 0))) := Lib.hid hh
  have hR := fun w => right_cut (m : Nat) w
  rw [show decide ((0 : Int) ≤ (m : Nat) ∧ ((m : Nat) : Int) < 4294967296) = true by simp; omega] at hR
  have HR := Lib.hid hR
  have q0 : ((n : Nat) : Int) ≤ (l.length : Int) - 4 := by omega
  have q1 : ¬ (l.length : Int) - 4 < (n : Nat) := by omega
  have q2 : IntKind.i64.wrap ((l.length : Int) - 4) = (l.length : Int) - 4 := by rw [IntKind.wrap_i64]; omega
  have q3 : n ≤ l.length := by omega
  have q4 : ¬ cap = n := by omega
  have q5 : n < cap := by omega
  clear hb hR htk hh
  go_enter Try.func25, Try.ntmps25
  go_wp2_with (go_at_call 46; refine (HR.out _).mono ?_; rintro e w1 ⟨rfl, rfl⟩)
  go_region_law (first
    | (go_simp; go_at_call 47; refine (spell_any m hm _).mono ?_; rintro e w1 ⟨rfl, rfl⟩)
    | (refine step_copy_row (by rfl) _ _ _ _ (by rfl) 5 Try.underlying22 (by kernel_rfl) g n (l.length - n) (cap - n) ⟨w.heap.size, 0, none⟩ 4 4 (by rfl) (by rfl) cur 5 (by exact ((((Below.refl (w.heap.size) w).alloc (Nat.le_refl _) _).drew).block g hgl).trans HG.out) ((spellB m).map bv) (by rw [List.length_map, spellB_len]; exact (Nat.min_eq_left (by omega)).symm) (World.news_of_block (heap_alloc_new w _)) (by rw [List.length_map, spellB_len, hsz]; omega) (bv_one _) ?_; intro w4 hg4 hd4; have hb4 := Lib.hid (((Below.refl (B + 1) w).alloc (by omega) _).drew.trans (hd4.1 _ hg)); have HT := Lib.hid ((typed_below (((Below.refl _ w).alloc (Nat.le_refl _) _).drew)).trans (hd4.2 ⟨cur, ((((Below.refl (w.heap.size) w).alloc (Nat.le_refl _) _).drew).block g hgl).trans HG.out⟩)); clear hd4))
  all_goals (go_wp2)
  all_goals go_ret
  all_goals exact ⟨rfl, pen_patched H1.out hcap hmax hsz hg HK.out hn hg4.out hb4.out, hb4.out, HT.out⟩
end Go.Proofs.Ytbekkdlgibijdaa
