/- The law GopDelays: its walk. -/
import Derived.Test.YtmnkbcigjbiniaaFst
import Derived.Test.YtmnkbcigjbiniaaDlR
import Derived.Test.YtmnkbcigjbiniaaSl
namespace Go.Proofs.Ytmnkbcigjbiniaa.gopDelays
open Go.RowKit

def bare (n : Int) : ShX := (⟨n, [], false, 0⟩, .slice none 0 0)
def rowN (zs : List Int) : List ShX := zs.map bare
theorem rowN_snoc (zs : List Int) (k : Nat) (X : Int) (h : zs[k]? = some X) : rowN (zs.take (k + 1)) = rowN (zs.take k) ++ [bare X] := by
  rw [take_snoc' h]; simp [rowN]

set_option maxRecDepth 20000 in
set_option maxHeartbeats 4000000 in
theorem walk (w : World) (a : Option Addr) (len cap : Nat) (zs : List Int) (hz : IsRow .i64 w a len cap zs) :
    Calls Try.prog 4 #[.slice a len cap] w fun e w' => e = .returned (.bool true) ∧ Below w.heap.size w w' := by
  obtain ⟨i0, hi, hz0, hz1, hz2⟩ := info_parts info32
  have hlen := hz.len
  obtain ⟨g, off, ha, hcell⟩ := hz.at
  have HC := Lib.hid hcell
  have HA := Lib.hid ha
  clear hz hcell ha
  by_cases h60 : 60 < len
  · go_enter Try.func4, Try.ntmps4
    go_wp2_with (first | (go_at_call 7; refine (first32 _).mono ?_; rintro e w1 ⟨rfl, hB1⟩))
    go_ret
    exact ⟨rfl, hB1⟩
  obtain ⟨ys, hys⟩ : ∃ ys, ys = (List.range len).map (fun i => zs.getD i 0) := ⟨_, rfl⟩
  have hyl : ys.length = len := by rw [hys]; simp
  have hyg : ∀ i, i < len → ys[i]? = some (zs.getD i 0) := fun i hi => by rw [hys]; simp [hi]
  have HYG := Lib.hid hyg
  have HYL := Lib.hid hyl
  clear hys hyg hyl
  go_enter Try.func4, Try.ntmps4
  go_wp2_with (first | (go_at_call 7; refine (first32 _).mono ?_; rintro e w1 ⟨rfl, hB1⟩))
  go_loopw [3, 13] (fun v i wr => ∃ k : Nat, k ≤ len ∧ i = .int .i64 k ∧ Hid (∀ x ∈ ys.take k, -1099511627776 ≤ x ∧ x ≤ 1099511627776) ∧ wr.ownsRow w.heap.size 32 4 v (rowN (ys.take k)).length (rowX (rowN (ys.take k))) ∧ Below w.heap.size w wr) (fun _ i _ => (len - intOf i).toNat)
  case atStart => exact ⟨0, by omega, rfl, Lib.hid (by simp), World.ownsRow_nil _ _ _ _, hB1⟩
  case round =>
    obtain ⟨k, hk, rfl, hbd, hown, hB⟩ := hrel
    have hsz := hB.size
    have hl : (rowN (ys.take k)).length = k := by have := HYL.out; simp [rowN]; omega
    by_cases hlt : k < len
    · obtain rfl : a = some ⟨g, off, none⟩ := by
        rcases HA.out with h | h
        · omega
        · exact h
      obtain ⟨d0, hx0, hx1⟩ := HC.out k hlt
      obtain ⟨X, hX⟩ : ∃ X, X = zs.getD k 0 := ⟨_, rfl⟩
      rw [← hX] at d0 hx0 hx1
      have hx0' : -9223372036854775808 ≤ X := hx0
      have hx1' : X ≤ 9223372036854775807 := hx1
      have e0 := (hB.cell (block_lt_of_cell d0)).trans d0
      have hget : ys[k]? = some X := by rw [hX]; exact HYG.out k hlt
      have htk := rowN_snoc ys k X hget
      have htk2 := take_snoc' hget
      have HTK := Lib.hid htk
      have HTK2 := Lib.hid htk2
      have HL := Lib.hid hl
      have i1 : (0 : Int) ≤ (k : Int) := by omega
      have i2 : (k : Int) < (len : Int) := by omega
      clear hX hget htk htk2 hl d0 hx0 hx1
      by_cases c1 : 1099511627776 < X
      · go_wp2
        go_ret
        exact ⟨rfl, hB⟩
      by_cases c2 : X < -1099511627776
      · go_wp2
        go_ret
        exact ⟨rfl, hB⟩
      go_wp2_with (at_builtin; refine wpList_append_own _ rfl _ _ 27 rfl w.heap.size 32 i0 (.agg #[.int .i64 0, .slice none 0 0, .bool false, .int .i64 0]) 4 48 Try.underlying27 hi hz0 hz1 hz2 rfl (by decide) _ _ _ rfl (hown.alloc _) ⟨wr.heap.size, 0, none⟩ 1 1 (cellX (bare X)) rfl rfl (cells_new _ (cellX (bare X)).toArray _) (by simp [cellX, bare, Value.oneCell']) (by have := HL.out; unfold maxLen; omega) (by have := HL.out; omega) (by simp; omega) ?_; intro v' w2 hown2 hgrow _)
      go_roundw
      case rel =>
        refine ⟨k + 1, by omega, by go_num, Lib.hid ?_, ?_, (hB.alloc (by omega) _).grown hgrow (by simp; omega) (fun j hj => (hown.lt j hj).1)⟩
        · intro x hx
          rw [HTK2.out] at hx
          rcases List.mem_append.1 hx with hx | hx
          · exact hbd.out x hx
          · rw [List.mem_singleton] at hx; omega
        · rw [HTK.out, rowX_snoc, List.length_append]; exact hown2
      case measure => simp [intOf]; omega
    · obtain rfl : k = len := by omega
      have hG : ∀ x ∈ rowN (ys.take k), ShG x wr := fun x hx => by
        simp only [rowN, List.mem_map] at hx
        obtain ⟨n, _, rfl⟩ := hx
        exact refs_nil _
      obtain ⟨A, cp, rfl, hrow⟩ := shrow_of hown hG
      have hnums : numsX (rowN (ys.take k)) = ys.take k := by simp [numsX, rowN, bare, Function.comp_def]
      have hd := delay_any _ _ cp wr hrow (by omega) (by rw [hnums]; exact hbd.out)
      obtain ⟨R, hR⟩ : ∃ R, R = delayI (numsX (rowN (ys.take k))) (rowN (ys.take k)).length := ⟨_, rfl⟩
      have hnb : ∀ x ∈ numsX (rowN (ys.take k)), -1099511627776 ≤ x ∧ x ≤ 1099511627776 := by rw [hnums]; exact hbd.out
      rw [← hR] at hd
      have HD := Lib.hid hd
      have HRW := Lib.hid hrow
      have HNB := Lib.hid hnb
      have HR := Lib.hid hR
      have hl2 : (rowN (ys.take k)).length ≤ 1000 := by omega
      clear hd hrow hnb hR hnums hl hG hown
      go_wp2_with (first
        | (go_at_call 17; refine HD.out.mono ?_; rintro e w2 ⟨rfl, hb2⟩; have hr2 := (refDelay_any _ _ cp w2 (HRW.out.later hb2) hl2 HNB.out); have HR2 := Lib.hid hr2; clear hr2)
        | (go_at_call 18; refine HR2.out.mono ?_; rw [← HR.out]; rintro e w3 ⟨rfl, rfl⟩))
      go_ret
      exact ⟨rfl, below2 hB hb2⟩
end Go.Proofs.Ytmnkbcigjbiniaa.gopDelays
