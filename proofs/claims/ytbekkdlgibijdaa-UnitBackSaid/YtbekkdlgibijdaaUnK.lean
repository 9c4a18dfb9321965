/- What Split leaves; the box of a walker's iterator. -/
import Derived.Test.YtbekkdlgibijdaaUnJ
import Derived.RangeFuncNested
namespace Go.Proofs.Ytbekkdlgibijdaa
open Go.RowKit Go.Shelf
attribute [local go_sem] Oper.semAt_some

theorem units_any (p q : Option Addr) (w : World) :
    Calls Try.prog 50 #[.pointer p, .pointer q] w fun e w' => e = .returned (.func (.func 54) #[] #[.pointer (some ⟨w.heap.size, 0, none⟩), .pointer (some ⟨w.heap.size + 1, 0, none⟩)]) ∧ w' = (w.alloc (.cells #[.pointer p] 63)).alloc (.cells #[.pointer q] 101) := by
  go_enter Try.func50, Try.ntmps50
  go_wp2
  go_ret
  exact ⟨rfl, rfl⟩
theorem info66c : (Try.prog.info? 66).map (fun i => (i.zero, i.size, i.bytes)) = some (some (.agg #[.int .i64 0, .slice none 0 0]), 2, 32) := by kernel_rfl
/-- the cells of a unit -/
def cellU (x : UX) : List Value := [.int .i64 (x.1.1 : Nat), x.2]
def rowU (xs : List UX) : List Value := xs.flatMap cellU
theorem rowU_snoc (xs : List UX) (x : UX) : rowU (xs ++ [x]) = rowU xs ++ cellU x := by simp [rowU]
/-- the error of a split -/
def splitE (b : List UInt8) (m : Nat) : Int := if errU b m = 0 ∧ endU b m < b.length then 272 else errU b m
/-- What Split leaves. -/
def SplitPost (b : List UInt8) (w : World) (e : Ending) (w' : World) : Prop :=
  ∃ v xs m, e = .returned (.tuple #[v, .int .i64 (splitE b m)]) ∧ CountU b m ∧ xs.map (·.1) = (List.range m).map (elU b) ∧ w'.ownsRow w.heap.size 66 2 v xs.length (rowU xs) ∧ (∀ x ∈ xs, UG w.heap.size x w') ∧ Below w.heap.size w w'
theorem blk_own {β : Type} (B : Nat) (t : TypeId) (f : β → Array Value) : Own (fun s W => W.heap[B]? = some (.cells (f s) t (0, 0))) := fun s X Y row hs hg hrow => by
  refine (hg.block B (block_lt hs) (fun e' => ?_)).trans hs
  obtain ⟨o, ho, hc⟩ := hrow B e'.symm
  rw [hs] at ho; cases ho; cases hc
theorem bytes_own {w w' : World} {lo : Nat} {v : Value} {l : List UInt8} {row : Option Nat} (h : BytesAt w lo v l) (hg : w.grownBy w' row) (hr : ∀ r, row = some r → ∃ o : Obj, w.heap[r]? = some o ∧ o.isCells = false) : BytesAt w' lo v l := by
  obtain ⟨A, c, hv, hc, h⟩ := h
  refine ⟨A, c, hv, hc, h.imp id ?_⟩
  rintro ⟨g, off, cs, fr, hA, hlo, hb, hx⟩
  refine ⟨g, off, cs, fr, hA, hlo, (hg.block g (block_lt hb) (fun e => ?_)).trans hb, hx⟩
  obtain ⟨o, ho, hcc⟩ := hr g e.symm
  rw [hb] at ho; cases ho; cases hcc
theorem all_own (lo B : Nat) : OwnFrom B (fun (xs : List UX) W => ∀ x ∈ xs, UG lo x W) := fun _ _ _ _ hs hg hrow x hx => bytes_own (hs x hx) hg (fun r e => (hrow r e).2)
theorem size_own (n : Nat) {β : Type} (B : Nat) : OwnFrom B (fun (_ : β) W => n ≤ W.heap.size) := fun _ _ _ _ hs hg _ => Nat.le_trans hs hg.size
theorem fin_own (eb wb cb lo : Nat) (b : List UInt8) (B : Nat) : OwnFrom B (UnFin eb wb cb lo b) := fun xs X Y row hs hg hrow => by
  obtain ⟨m, size, ended, h1, h2, h3, h4⟩ := hs
  have hr : ∀ r, row = some r → ∃ o : Obj, X.heap[r]? = some o ∧ o.isCells = false := fun r e => (hrow r e).2
  obtain ⟨v, c1, c2, c3⟩ := h4.cur
  exact ⟨m, size, ended, h1, h2, blk_own eb 67 (fun (_ : Unit) => #[.int .i64 (errU b m)]) () X Y row h3 hg hr, ⟨blk_own wb 93 (fun (_ : Unit) => #[.pointer (some ⟨cb, 0, none⟩), .int .i64 size, .bool ended]) () X Y row h4.wk hg hr, v, blk_own cb 87 (fun (_ : Unit) => #[v, .int .i64 (endU b m : Nat)]) () X Y row c1 hg hr, bytes_own c2 hg hr, c3⟩⟩
theorem own_type {w : World} {base size n : Nat} {e : TypeId} {v : Value} {xs : List Value} (h : w.ownsRow base e size v n xs) : ∀ r, v.ownBlock = some r → ∃ cs, w.heap[r]? = some (.cells cs e (0, 0)) := by
  intro r hr
  rcases h.2 with ⟨h1, _⟩ | ⟨g, cap, cur, hv, hg, hh, _⟩
  · rw [h1] at hr; cases hr
  · rw [hv] at hr; cases hr; exact ⟨_, hh⟩
theorem row_itc {A B : World} {ts : List TypeId} {N0 base size n : Nat} {e : TypeId} {v : Value} {xs : List Value} (h : A.ownsRow base e size v n xs) (hic : Itc ts N0 A B) (he : e ∉ ts) : B.ownsRow base e size v n xs := by
  refine ⟨h.1, h.2.imp id ?_⟩
  rintro ⟨g, cap, cur, hv, hg, hh, hr⟩
  exact ⟨g, cap, cur, hv, hg, hic.same _ _ hh (fun _ _ _ e2 => by cases e2; exact he), hr⟩
theorem bytes_itc {A B : World} {ts : List TypeId} {N0 lo : Nat} {v : Value} {l : List UInt8} (h : BytesAt A lo v l) (hic : Itc ts N0 A B) (he : (5 : TypeId) ∉ ts) : BytesAt B lo v l := by
  obtain ⟨a, c, hv, hc, h⟩ := h
  refine ⟨a, c, hv, hc, h.imp id ?_⟩
  rintro ⟨g, off, cs, fr, hA, hlo, hb, hx⟩
  exact ⟨g, off, cs, fr, hA, hlo, hic.same _ _ hb (fun _ _ _ e2 => by cases e2; exact he), hx⟩
theorem cells_new (w : World) (cs : Array Value) (t : TypeId) : ∀ j u, cs.toList[j]? = some u → (w.alloc (.cells cs t)).cell? ((⟨w.heap.size, 0, none⟩ : Addr).add j) = some u := by
  intro j u h
  have hadd : (⟨w.heap.size, 0, none⟩ : Addr).add j = ⟨w.heap.size, j, none⟩ := by unfold Addr.add; split <;> simp_all
  rw [hadd, cell_of_row _ _ _ _ _ _ (heap_alloc_new w _)]
  simpa using h
/-- The iterator's contract. -/
theorem units_gives (d N0 b1 b2 eb wb cb lo : Nat) (ev : Int) (b : List UInt8) (hl : b.length ≤ 4294967296) (n1 : N0 ≤ wb) (n2 : N0 ≤ cb) (n3 : N0 ≤ eb) (W0 : World) (hst : UnSt W0 b1 b2 eb wb cb lo ev 0 false b 0) (hn : N0 ≤ W0.heap.size) :
    SeqH Fence.wide d Try.prog 54 #[.pointer (some ⟨b1, 0, none⟩), .pointer (some ⟨b2, 0, none⟩)] encU (UG N0) KU (Itc [67, 87, 93] N0) (UnFin eb wb cb lo b) W0 := fun l J W hW hJ hY h0 =>
  units_in d l N0 b1 b2 eb wb cb lo ev b hl n1 n2 n3 J W hJ hY (hst.later hW) (Nat.le_trans hn hW.size) h0
end Go.Proofs.Ytbekkdlgibijdaa
