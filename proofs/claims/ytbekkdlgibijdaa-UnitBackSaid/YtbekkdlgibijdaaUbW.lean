/- The law UnitBack: its walk. -/
import Derived.Test.YtbekkdlgibijdaaUnQ
import Derived.Test.YtbekkdlgibijdaaUnT
import Derived.Test.YtbekkdlgibijdaaUnV
import Derived.Test.YtbekkdlgibijdaaCuS
import Derived.Deep.DeepCutAuto
namespace Go.Proofs.Ytbekkdlgibijdaa.unitBack
open Go.RowKit

theorem back_plain {U : Nat → Int × List UInt8} {n : Nat} (hok : ∀ k, k < n → okJ U k) {xs : List UX} {m : Nat} (hc : CountU (outJ U n) m) (hxs : xs.map (·.1) = (List.range m).map (elU (outJ U n))) : m = n ∧ plainU xs = (List.range n).map U := by
  obtain rfl := count_one hc (out_count hok)
  refine ⟨rfl, ?_⟩
  have e : plainU xs = (xs.map (·.1)).map (fun p => ((p.1 : Int), p.2)) := by simp [plainU]
  rw [e, hxs, List.map_map]
  refine List.map_congr_left fun k hk => ?_
  have hk' : k < m := List.mem_range.1 hk
  have := known_lt (hok k hk').1
  show (((elU (outJ U m) k).1 : Int), (elU (outJ U m) k).2) = U k
  rw [out_el hok hk']
  show (((U k).1.toNat : Int), (U k).2) = U k
  rw [show (((U k).1.toNat : Nat) : Int) = (U k).1 by omega]
theorem bytesC_some {w : World} {a : Addr} {n c : Nat} {l : List UInt8} (h : BytesR w (.slice (some a) n c) l) : BytesC w (.slice (some a) n c) l := by
  obtain ⟨A, c', hv, hc, g, off, hA, hx⟩ := h
  cases hv
  exact ⟨_, _, rfl, hc, (fun h => by cases h), g, off, hA, hx⟩
set_option maxRecDepth 20000 in
set_option maxHeartbeats 4000000 in
theorem walk (w : World) (a : Option Addr) (len cap : Nat) (X : Nat → InfX) (hs : InfoRow w a len X) (cut : Int) (hcut : (Lit.int .u16 cut).wf = true) :
    Calls Try.prog 9 #[.slice a len cap, .int .u16 cut] w fun e w' => e = .returned (.bool true) ∧ Below w.heap.size w w' := by
  have HI := Lib.hid hs
  have hlen := hs.1
  by_cases hbig2 : 60 < len
  · have hb2 : (60 : Int) < (len : Int) := by omega
    go_enter Try.func9, Try.ntmps9
    go_wp2_with (go_at_call 28; refine (first27 _).mono ?_; rintro e w1 ⟨rfl, hb1⟩; have HB1 := Lib.hid hb1; clear hb1)
    go_ret
    exact ⟨rfl, HB1.out⟩
  have hb2 : ¬ (60 : Int) < (len : Int) := by omega
  have HL := Lib.hid hbig2
  clear hs hbig2
  have hc0 : 0 ≤ cut ∧ cut < 65536 := by
    simp only [Lit.wf, Bool.and_eq_true, decide_eq_true_eq] at hcut
    have h1 : (0 : Int) ≤ cut := hcut.1
    have h2 : cut ≤ 65535 := hcut.2
    omega
  obtain ⟨ct, rfl⟩ : ∃ ct : Nat, cut = (ct : Nat) := ⟨cut.toNat, by omega⟩
  have hct : (ct : Int) < 65536 := hc0.2
  have HCT := Lib.hid hct
  have hd : decide ((60 : Int) < (len : Int)) = false := decide_eq_false hb2
  clear hcut hc0 hct hlen hb2
  go_enter Try.func9, Try.ntmps9
  go_wp2_with fail
  refine (first27 _).mono ?_
  rintro e w1 ⟨rfl, hb1⟩
  have HB1 := Lib.hid hb1
  clear hb1
  go_wp2_with fail
  refine (join_any _ a len cap X (HI.out.later HB1.out)).mono ?_
  rintro e w4 hp
  rcases hp with ⟨hok, v4, rfl, hown4, hb4⟩ | ⟨_, rfl, hb4⟩
  · have HOK := Lib.hid hok
    clear hok
    have hT13 : 13 ≤ (outJ (uOf X) len).length := by rw [out_len]; omega
    have hTb : (outJ (uOf X) len).length ≤ 2147483647 := by rw [out_len]; have := (acc_le HOK.out).1; omega
    obtain ⟨g4, cp4, rfl⟩ := own_some hown4 (by omega)
    have hr4 := (bytes_of_own hown4).reads
    have hcp : (outJ (uOf X) len).length ≤ cp4 := by
      obtain ⟨_, _, hv, hc, _⟩ := hr4
      cases hv; exact hc
    have hback := fun xs m h1 h2 => back_plain (xs := xs) (m := m) HOK.out h1 h2
    have hsp0 := out_split HOK.out
    have hcutx := fun m (hm : m < (outJ (uOf X) len).length) j => cut_split HOK.out hm (j := j)
    have hmore := fun x j => more_split HOK.out x (j := j)
    obtain ⟨T, hT⟩ : ∃ T, T = outJ (uOf X) len := ⟨_, rfl⟩
    rw [← hT] at hr4 hT13 hTb hcp hback hsp0 hcutx hmore ⊢
    have HBACK := Lib.hid hback
    have HSP0 := Lib.hid hsp0
    have HCUT := Lib.hid hcutx
    have HMORE := Lib.hid hmore
    have HB4 := Lib.hid (HB1.out.trans (hb4.mono HB1.out.size))
    have HR4 := Lib.hid hr4
    have HTB := Lib.hid hTb
    have t13 : (13 : Int) ≤ (T.length : Int) := by omega
    have tb : (T.length : Int) ≤ 2147483647 := by omega
    have tcp : (T.length : Int) ≤ (cp4 : Int) := by omega
    clear hown4 hb4 hr4 hback hsp0 hcutx hmore hT hT13
    go_wp2_with fail
    refine (split_any _ T _ HR4.out (by have := HTB.out; omega)).mono ?_
    rintro e w5 ⟨v5, xs, m, rfl, hcnt, hxs, hown5, hG5, hb5⟩
    obtain ⟨A5, c5, rfl, hsr5⟩ := same_of_split hown5 hG5
    obtain ⟨rfl, hpl⟩ := HBACK.out xs m hcnt hxs
    rw [HSP0.out]
    rw [hpl] at hsr5 ⊢
    have HB5 := Lib.hid (HB4.out.trans (hb5.mono HB4.out.size))
    have HR5 := Lib.hid (HR4.out.later hb5)
    have HS5 := Lib.hid (And.intro hsr5 (same_of_info (HI.out.later HB5.out)))
    have hl5 : ((List.range m).map (uOf X)).length = m := by simp
    rw [hl5]
    clear hcnt hxs hown5 hG5 hb5 hsr5 hpl HR4 HBACK hl5
    have HSM := Lib.hid (show Calls Try.prog 38 #[.slice A5 m c5, .slice a m cap] w5 fun e w' => e = .returned (.bool true) ∧ Below w5.heap.size w5 w' from by
      have := same_any w5 A5 a c5 cap ((List.range m).map (uOf X)) ((List.range m).map (uOf X)) HS5.out.1 HS5.out.2 (by have := HL.out; simp; omega) (by have := HL.out; simp; omega)
      rw [decide_eq_true rfl] at this
      simpa using this)
    go_upto_region 11 with (go_at_call 38; refine HSM.out.mono ?_; rintro e w6 ⟨rfl, hb6⟩; have HB6 := Lib.hid (HB5.out.trans (hb6.mono HB5.out.size)); have HR6 := Lib.hid (HR5.out.later hb6); clear hb6)
    obtain ⟨K, hK⟩ : ∃ K, K = ct % T.length := ⟨_, rfl⟩
    have hKl : K < T.length := by rw [hK]; exact Nat.mod_lt _ (by omega)
    have htm : ((ct : Nat) : Int).tmod (T.length : Int) = (K : Nat) := by rw [hK]; rw [Int.tmod_eq_emod_of_nonneg (by omega)]; rfl
    have hne : ((T.length : Int) == 0) = false := by simp; intro h; rw [h] at t13; simp at t13
    have hne2 : ¬ (T.length : Int) = 0 := by omega
    have HF := Lib.hid (And.intro hKl (And.intro t13 (And.intro tb tcp)))
    clear t13 tb tcp hcp hTb hKl hK
    have hwr : wrap64 (ct : Int) = (ct : Int) := by have := HCT.out; unfold wrap64; omega
    go_upto_region 12 with fail
    have k0 : (0 : Int) ≤ (K : Int) := by omega
    have k1 : (K : Int) ≤ (cp4 : Int) := by have := HF.out; omega
    have k2 : (K : Int) ≤ 9223372036854775807 := by have := HF.out; omega
    clear htm hne hne2 hwr
    go_wp2_with fail
    have hpc : BytesR w6 (.slice (some ⟨g4, 0, none⟩) K cp4) (nextB T 0 K) := by
      have := HR6.out.piece 0 K (by have := HF.out; omega)
      simpa using this
    refine (split_any _ (nextB T 0 K) _ hpc (by rw [nextB_len (by have := HF.out; omega)]; have := HF.out; omega)).mono ?_
    rintro e w7 ⟨v7, xs7, m7, rfl, hcnt7, _, _, _, hb7⟩
    rw [HCUT.out K HF.out.1 m7 hcnt7]
    have HB7 := Lib.hid (HB6.out.trans (hb7.mono HB6.out.size))
    have HR7 := Lib.hid (bytesC_some (HR6.out.later hb7))
    clear hpc hcnt7 hb7 HCUT
    obtain ⟨M, hM⟩ : ∃ M, M = K % 256 := ⟨_, rfl⟩
    have hw8 : IntKind.u8.wrap (K : Int) = (M : Nat) := by rw [IntKind.wrap_u8']; omega
    have HM := Lib.hid (show M < 256 by omega)
    go_upto_region 13 with fail
    clear hM k0 k1 k2 hd
    go_wp2_with (first
      | (at_builtin; refine wpList_append_bytes rfl _ _ rfl w7.heap.size _ 0 [] rfl (own_empty w7 _ (Nat.le_refl _)) _ T rfl (HR7.out.later ((Below.refl _ _).alloc (Nat.le_refl _) _)) (by have := HF.out; omega) (by simp) ?_; intro v8 w8 hown8 hgrow8; have hb8 : Below w7.heap.size w7 w8 := ((Below.refl w7.heap.size w7).alloc (Nat.le_refl _) _).grown hgrow8 (by simp) (fun k hk => by cases hk; exact Nat.le_refl _); have HO8 := Lib.hid (show w8.ownsRow w7.heap.size 5 1 v8 T.length (T.map bv) by simpa using hown8); have HB8 := Lib.hid (HB7.out.trans (hb8.mono HB7.out.size)); have HZ8 := Lib.hid hb8; clear hown8 hgrow8 hb8)
      | (at_builtin; refine wpList_append_bytes rfl _ _ rfl w7.heap.size v8 T.length (T.map bv) rfl (HO8.out.alloc _) _ [UInt8.ofNat M] rfl (bytesC_some (one_byte w8 M HM.out).reads) (by have := HF.out; simp; omega) (by have := HZ8.out.size; simp; omega) ?_; intro v9 w9 hown9 hgrow9))
    have hb9 : Below w7.heap.size w7 w9 := (HZ8.out.alloc HZ8.out.size _).grown hgrow9 (by have := HZ8.out.size; simp; omega) (fun k hk => by
      rcases HO8.out.2 with ⟨hv, _⟩ | ⟨g, cap, cur, hv, hg, _⟩
      · rw [hv] at hk; cases hk
      · rw [hv] at hk; cases hk; exact hg)
    have hr9 : BytesR w9 v9 (T ++ [UInt8.ofNat M]) := (bytes_of_own (base := w7.heap.size) (by simpa using hown9)).reads
    refine (split_any _ (T ++ [UInt8.ofNat M]) _ hr9 (by have := HF.out; simp; omega)).mono ?_
    rintro e w10 ⟨v10, xs10, m10, rfl, hcnt10, _, _, _, hb10⟩
    rw [HMORE.out _ m10 hcnt10]
    have HB10 := Lib.hid (HB7.out.trans ((hb9.trans (hb10.mono hb9.size)).mono HB7.out.size))
    clear hr9 hb9 hcnt10 hb10 hown9 hgrow9 HMORE
    go_wp2
    go_ret
    exact ⟨rfl, HB10.out⟩
  · have HB4 := Lib.hid (HB1.out.trans (hb4.mono HB1.out.size))
    clear hb4
    go_wp2
    go_ret
    exact ⟨rfl, HB4.out⟩
end Go.Proofs.Ytbekkdlgibijdaa.unitBack
