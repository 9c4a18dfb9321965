/- Bytes that came in; an append of them; Take with the world between; the nil cursor's Byte and Take. -/
import Derived.Test.YtbekkdlgibijdaaCuM
import Derived.Test.YtbekkdlgibijdaaCuS
namespace Go.Proofs.Ytbekkdlgibijdaa
open Go.RowKit

/-- A slice whose cells read as these bytes, in a block of whatever type. -/
def BytesC (w : World) (v : Value) (l : List UInt8) : Prop :=
  ∃ A c, v = .slice A l.length c ∧ l.length ≤ c ∧ (A = none → c = 0) ∧ ∃ g off, (l = [] ∨ A = some ⟨g, off, none⟩) ∧ ∀ j (hj : j < l.length), w.cell? ⟨g, off + j, none⟩ = some (bv l[j])
theorem BytesC.later {w w' : World} {v : Value} {l : List UInt8} (h : BytesC w v l) (hb : Below w.heap.size w w') : BytesC w' v l := by
  obtain ⟨A, c, hv, hc, hn, g, off, hA, hx⟩ := h
  exact ⟨A, c, hv, hc, hn, g, off, hA, fun j hj => cell_later (hx j hj) hb⟩
theorem BytesC.str {w : World} {v : Value} {l : List UInt8} (h : BytesC w v l) : (convert 22 9 v).run Try.prog w = .ok (.string ⟨l.toArray⟩) w := by
  obtain ⟨A, c, rfl, hc, _, g, off, hA, hx⟩ := h
  cases A with
  | none =>
    obtain rfl : l = [] := by
      rcases hA with h | h
      · exact h
      · cases h
    exact run_convert_bytes_nil w 22 5 Try.underlying22 Try.underlying5 _ _ 9 Try.underlying9
  | some ad =>
    refine run_convert_bytes_back w 22 9 5 ad c l Try.underlying22 Try.underlying5 Try.underlying9 (fun j hj => ?_)
    rcases hA with h | h
    · rw [h] at hj; simp at hj
    · cases h
      have : (⟨g, off, none⟩ : Addr).add j = ⟨g, off + j, none⟩ := by unfold Addr.add; split <;> simp_all
      rw [this]
      exact hx j hj
theorem bytes_of_row {w : World} {a : Option Addr} {len cap : Nat} {zs : List Int} (h : IsRow .u8 w a len cap zs) : ∃ l : List UInt8, l.length = len ∧ BytesC w (.slice a len cap) l := by
  have hc : len ≤ cap ∧ (a = none → cap = 0) := by
    rcases h with ⟨rfl, rfl, rfl, _⟩ | ⟨x, rfl, hl, _⟩
    · exact ⟨Nat.le_refl _, fun _ => rfl⟩
    · exact ⟨hl, fun e => by cases e⟩
  obtain ⟨g, off, hA, hx⟩ := h.at
  refine ⟨(List.range len).map (fun i => UInt8.ofNat (zs.getD i 0).toNat), by simp, a, cap, by simp, by simpa using hc.1, hc.2, g, off, hA.imp (fun e => by simp [e]) id, fun j hj => ?_⟩
  have hj2 : j < len := by simpa using hj
  obtain ⟨c0, c1, c2⟩ := hx j hj2
  have c1' : 0 ≤ zs.getD j 0 := c1
  have c2' : zs.getD j 0 ≤ 255 := c2
  rw [c0, List.getElem_map, List.getElem_range, bv_ofNat]
  congr 2
  omega
theorem wpList_append_bytes {ops : Array Oper} {rest : List Oper} {o : Oper} {a : Act} {w : World} {Q : Exit → Act → World → Prop} (hgd : o.guard = none) (s x : Operand)
    (ho : o.op = .call { callee := .builtin .append, args := #[s, x], argTypes := #[22, 22] }) (base : Nat) (v : Value) (n : Nat) (xs : List Value) (hs : a.eval s = v) (hown : w.ownsRow base 5 1 v n xs)
    (xv : Value) (l : List UInt8) (hx : a.eval x = xv) (hb : BytesC w xv l) (hl : n + l.length ≤ 4294967296) (hbase : base ≤ w.heap.size)
    (h : ∀ v' w', w'.ownsRow base 5 1 v' (n + l.length) (xs ++ l.map bv) → w.grownBy w' v.ownBlock → wpList Try.prog ops Q rest (a.put o.dst v') w') : wpList Try.prog ops Q (o :: rest) a w := by
  obtain ⟨i0, hi, hz0, hz1, hz2⟩ := info_parts info5
  obtain ⟨A, c, rfl, hc, hnil, g, off, hA, hcell⟩ := hb
  cases A with
  | none =>
    obtain rfl : l = [] := by
      rcases hA with h | h
      · exact h
      · cases h
    obtain rfl := hnil rfl
    exact wpList_append_own_none hgd s x 22 ho base 5 i0 1 Try.underlying22 hi v n xs hs hown hx (h v w (by simpa using hown) (grown_refl _ _))
  | some ad =>
    exact wpList_append_own w hgd s x 22 ho base 5 i0 (.int .u8 0) 1 1 Try.underlying22 hi hz0 hz1 hz2 rfl (by decide) v n xs hs hown ad l.length c (l.map bv) hx (by simp) (news_at hA rfl hcell) (bv_one l) (by unfold maxLen; omega) (by omega) hbase (fun v' w' h1 h2 _ => h v' w' h1 h2)
theorem RCur.grown {w w' : World} {rb at_ r : Nat} {s : List UInt8} (h : RCur w rb s at_) (hg : w.grownBy w' (some r)) (hr : r ≠ rb) : RCur w' rb s at_ :=
  (hg.block rb (block_lt h) (by simpa using Ne.symm hr)).trans h
theorem RCur.later {w w' : World} {rb at_ : Nat} {s : List UInt8} (h : RCur w rb s at_) (hb : Below w.heap.size w w') : RCur w' rb s at_ := block_later h hb
theorem RCur.typed {w : World} {rb at_ : Nat} {s : List UInt8} (h : RCur w rb s at_) : ∃ cs t fr, w.heap[rb]? = some (.cells cs t fr) ∧ t ≠ 5 := ⟨_, 29, _, h, by decide⟩
theorem cur_ne {w : World} {lo cb rb n m : Nat} {l s : List UInt8} (h : Cur w lo cb l n) (k : RCur w rb s m) : cb ≠ rb := by
  rintro rfl
  obtain ⟨v, h1, _⟩ := h
  unfold CurBox at h1
  unfold RCur at k
  rw [h1] at k
  cases k
section
variable {w : World} {lo cb : Nat} {l : List UInt8} {at_ : Nat}
theorem take_yes2 (m : Nat) (h : Cur w lo cb l at_) (hl : l.length ≤ 4294967296) (hm : at_ + m ≤ l.length) :
    Calls Try.prog 16 #[.pointer (some ⟨cb, 0, none⟩), .int .i64 (m : Nat)] w fun e w' => ∃ v wm, e = .returned (.tuple #[v, .bool true]) ∧ w'.ownsRow wm.heap.size 5 1 v (nextB l at_ m).length ((nextB l at_ m).map bv) ∧ Cur wm lo cb l (at_ + m) ∧ w.grownBy wm (some cb) ∧ Below wm.heap.size wm w' := by
  have hN := next_yes (m := m) h hl hm
  have HN := Lib.hid hN
  have hlen := nextB_len hm
  have HL := Lib.hid hlen
  have HM := Lib.hid (show m ≤ 4294967296 by omega)
  clear hN h hl hm hlen
  go_enter Try.func16, Try.ntmps16
  go_wp2_with (first
    | (go_at_call 44; refine HN.out.mono ?_; rintro e w1 ⟨v, rfl, hb, hC, hG⟩; have HB := Lib.hid hb; have HC := Lib.hid hC; have HG := Lib.hid hG; clear hb hC hG)
    | (go_at_call 43; refine (clone_any _ lo _ _ HB.out (by rw [HL.out]; exact HM.out)).mono ?_; rintro e w2 ⟨v', rfl, hown, hbel⟩; have H1 := Lib.hid hown; have H2 := Lib.hid hbel; clear hown hbel))
  go_ret2
  exact ⟨_, _, rfl, H1.out, HC.out, HG.out, H2.out⟩
theorem take_nil2 (w : World) : Calls Try.prog 16 #[.pointer none, .int .i64 0] w fun e w' => ∃ v, e = .returned (.tuple #[v, .bool true]) ∧ BytesAt w' 0 v [] ∧ Below w.heap.size w w' := by
  go_enter Try.func16, Try.ntmps16
  go_wp2_with (first
    | (go_at_call 44; refine (next_nil 0 _).mono ?_; rintro e w1 ⟨rfl, k, rfl⟩)
    | (go_at_call 43; refine (clone_any _ 0 [] _ (bytes_nil _ _) (by simp)).mono ?_; rintro e w2 ⟨v', rfl, hown, hbel⟩; have H1 := Lib.hid hown; have H2 := Lib.hid hbel; clear hown hbel))
  go_ret2
  exact ⟨_, rfl, (bytes_of_own (l := []) H1.out).mono (Nat.zero_le _), (below_drawn _ w k).trans H2.out⟩
theorem byte_nil (w : World) : Calls Try.prog 14 #[.pointer none] w fun e w' => e = .returned (.tuple #[.int .i64 0, .bool false]) ∧ ∃ k, w' = w.drewN k := by
  go_enter Try.func14, Try.ntmps14
  go_wp2_with (first
    | (go_at_call 44; refine (next_nil 1 _).mono ?_; rintro e w1 ⟨rfl, k, rfl⟩)
    | (go_at_call 45; refine (number_any _ 0 [] _ (bytes_nil _ _) (by simp)).mono ?_; rintro e w2 ⟨rfl, rfl⟩))
  go_ret2
  exact ⟨rfl, _, rfl⟩
end
end Go.Proofs.Ytbekkdlgibijdaa
