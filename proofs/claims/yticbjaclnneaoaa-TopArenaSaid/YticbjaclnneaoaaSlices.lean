/- Clone and Concat of octets. -/
import Derived.Test.YticbjaclnneaoaaOct
import Derived.Lib.LazyBuf
import Derived.Laws.AppendOwnNone
import Derived.Lib.AppendZeros
import Derived.Lib.AppendZerosOnto
namespace Go.Proofs.Yticbjaclnneaoaa.Oct
open Go.RowKit Go.Proofs.YticbjaclnneaoaaW.PrintWords Go.Proofs.YticbjaclnneaoaaW.PrintLast Go.Proofs.YticbjaclnneaoaaW.PrintMore Go.Proofs.Yticbjaclnneaoaa.Book
set_option linter.unusedSimpArgs false

/-- A new list of octets, or an empty one. -/
structure NewRow (w w' : World) (A : Option Addr) (n cap : Nat) (xs : List Int) : Prop where
  reads : ReadsInt w' .u8 A n xs
  fits : n ≤ cap
  below : Below w.heap.size w w'
  young : ∀ ad, A = some ad → ∃ g, ad = ⟨g, 0, none⟩ ∧ w.heap.size ≤ g ∧ g < w'.heap.size
  nil : A = none → n = 0 ∧ cap = 0

theorem own_zero8 (w : World) (base : Nat) (hb : base ≤ w.heap.size) : (w.alloc (.cells #[] 5)).ownsRow base 5 1 (.slice (some ⟨w.heap.size, 0, none⟩) 0 0) 0 [] :=
  ⟨by simp, .inr ⟨w.heap.size, 0, #[], rfl, hb, blk_new _ _, by simp⟩⟩
theorem own_low {w : World} {base e size n : Nat} {v : Value} {xs : List Value} (h : w.ownsRow base e size v n xs) (k : Nat) (hk : v.ownBlock = some k) : base ≤ k := by
  obtain ⟨hl, ⟨rfl, _⟩ | ⟨g, c, cur, rfl, h1, _⟩⟩ := h
  · simp [Value.ownBlock] at hk
  · obtain rfl : g = k := by simpa [Value.ownBlock] using hk
    exact h1
theorem own_nil8 (w : World) (base : Nat) : w.ownsRow base 5 1 (.slice none 0 0) 0 [] := ⟨rfl, .inl ⟨rfl, rfl⟩⟩

/-- What a row of one's own reads. -/
theorem own_reads8 {w : World} {base n : Nat} {v : Value} {xs : List Int} (h : w.ownsRow base 5 1 v n (lits8 xs)) : ∃ A cap, v = .slice A n cap ∧ n ≤ cap ∧ cap ≤ maxLen ∧ ReadsInt w .u8 A n xs ∧ (∀ ad, A = some ad → ∃ g, ad = ⟨g, 0, none⟩ ∧ base ≤ g ∧ g < w.heap.size) ∧ (A = none → n = 0 ∧ cap = 0) := by
  obtain ⟨hl, ⟨rfl, rfl⟩ | ⟨g, cap, cur, rfl, hb, hh, hc, hm, hs, ht⟩⟩ := h
  · have : xs = [] := by simpa [lits8] using hl
    subst this
    exact ⟨none, 0, rfl, Nat.le_refl _, Nat.zero_le _, reads_nothing _ _ _, (fun ad e => by cases e), fun _ => ⟨rfl, rfl⟩⟩
  · have hx : xs.length = n := by simpa [lits8] using hl
    refine ⟨some ⟨g, 0, none⟩, cap, rfl, hc, hm, ⟨hx, by unfold maxLen at hm; omega, fun h0 => ⟨_, rfl, fun j hj => ?_⟩⟩, fun ad e => ⟨g, (Option.some.inj e).symm, hb, blk_lt hh⟩, fun e => by cases e⟩
    rw [add_zero', blk_cell hh j, ← lits8_get xs j (by omega), ← ht]
    simp only [Nat.mul_one]
    rw [List.getElem?_take_of_lt hj]
    simp

theorem old_cell {w w1 : World} {a : Addr} {v : Value} (h : w.cell? a = some v) (hb : Below w.heap.size w w1) : w1.cell? a = some v := by
  rw [← h]
  exact hb.cell (p := a) (World.block_lt_of_cell? w _ h)

theorem reads_all {w : World} {ad : Addr} {n : Nat} {xs : List Int} (hr : ReadsInt w .u8 (some ad) n xs) : ∀ j v, (lits8 xs)[j]? = some v → w.cell? (ad.add j) = some v := fun j v hj => by
  by_cases h0 : 0 < (lits8 xs).length
  · obtain ⟨ad', e, h⟩ := reads_cells hr h0
    obtain rfl := Option.some.inj e
    exact h j v hj
  · have : lits8 xs = [] := List.eq_nil_of_length_eq_zero (by omega)
    rw [this] at hj; simp at hj

set_option maxHeartbeats 1000000 in
set_option maxRecDepth 100000 in
theorem clone8 (A : Option Addr) (n c : Nat) (xs : List Int) (w : World) (hr : ReadsInt w .u8 A n xs) (hn : n ≤ 140737488355328) (hnil : A = none → n = 0 ∧ c = 0) :
    Calls Try.prog 46 #[.slice A n c] w fun e w' => ∃ B cap, e = .returned (.slice B n cap) ∧ NewRow w w' B n cap xs := by
  cases A with
  | none =>
    obtain ⟨rfl, rfl⟩ := hnil rfl
    have hx : xs = [] := List.eq_nil_of_length_eq_zero hr.1
    subst hx
    have he := fun u : World => run_eql_slice_nil (P := Try.prog) u 46 5 none 0 0 Try.underlying46
    clear hr
    go_enter Try.func46, Try.ntmps46
    go_wp2
    go_ret
    exact ⟨none, 0, rfl, reads_nothing _ _ _, Nat.le_refl _, Below.refl _ _, (fun ad e => by cases e), fun _ => ⟨rfl, rfl⟩⟩
  | some ad =>
    obtain ⟨i0, hi, hz0, hz1, hz2⟩ := info_parts infoU8
    have HR := Aside0.mk hr
    have hlen := Lib.hid hr.1
    have HO := Aside0.mk (own_zero8 w w.heap.size (Nat.le_refl _))
    have hc := reads_all hr
    have HC := Aside0.mk hc
    have he := fun u : World => run_eql_slice_nil (P := Try.prog) u 46 5 (some ad) n c Try.underlying46
    clear hr hc hnil
    go_enter Try.func46, Try.ntmps46
    go_wp2_with (at_builtin; refine wpList_append_own _ rfl (.tmp 5) (.tmp 6) 46 rfl w.heap.size 5 i0 (.int .u8 0) 1 1 Try.underlying46 hi hz0 hz1 hz2 rfl (by decide) (.slice (some ⟨w.heap.size, 0, none⟩) 0 0) 0 [] rfl HO.out ad n c (lits8 xs) rfl (by rw [lits8_length, hlen.out, Nat.mul_one]) (fun j v hj => old_cell (HC.out j v hj) (below_alloc (Below.refl _ _) _)) (lits8_one xs) (by simp only [maxLen]; omega) (by omega) (by simp) ?_; intro v' w1 ho hg _; have HO1 := Aside0.mk ho; have HG1 := Aside0.mk hg; clear ho hg)
    obtain ⟨B, cap, rfl, hf, _, hrd, hy, hni⟩ := own_reads8 (xs := xs) (n := n) (by simpa using HO1.out)
    have hb : Below w.heap.size w w1 := pw_below_grown (below_alloc (Below.refl _ _) _) _ (by simp) HG1.out (fun k hk => by simp [Value.ownBlock] at hk; omega)
    clear HO1 HG1
    have HX := Aside0.mk (NewRow.mk hrd hf hb hy hni)
    clear hrd hb hy hni
    go_wp2
    go_ret
    exact ⟨B, cap, rfl, HX.out⟩

/-- A row of one's own without elements yet, but with room: Grow of nil. -/
theorem own_zeros8 (u : World) (base n : Nat) (hb : base ≤ u.heap.size) (cs : Array Value) (hc : cs.size = n) (hn : n ≤ maxLen) : (u.alloc (.cells cs 5)).ownsRow base 5 1 (.slice (some ⟨u.heap.size, 0, none⟩) 0 n) 0 [] :=
  ⟨by simp, .inr ⟨u.heap.size, n, cs, rfl, hb, blk_new _ _, Nat.zero_le _, hn, by omega, by simp⟩⟩

/-- A list of octets, as it is handed on. -/
structure Piece where
  A : Option Addr
  n : Nat
  c : Nat
  xs : List Int
def Piece.val (p : Piece) : Value := .slice p.A p.n p.c
def lenOf (L : List Piece) : Nat := (L.map (·.n)).sum
def allOf (L : List Piece) : List Int := L.flatMap (·.xs)
theorem lenOf_take (L : List Piece) (k : Nat) (h : k < L.length) : lenOf (L.take (k + 1)) = lenOf (L.take k) + L[k].n := by
  rw [List.take_succ_eq_append_getElem h]
  unfold lenOf
  rw [List.map_append, List.sum_append]
  simp
theorem allOf_take (L : List Piece) (k : Nat) (h : k < L.length) : allOf (L.take (k + 1)) = allOf (L.take k) ++ L[k].xs := by
  rw [List.take_succ_eq_append_getElem h]
  unfold allOf
  rw [List.flatMap_append]
  simp
theorem lenOf_le (L : List Piece) (k : Nat) : lenOf (L.take k) ≤ lenOf L := by
  have h : lenOf L = lenOf (L.take k) + lenOf (L.drop k) := by
    rw [lenOf, lenOf, lenOf, ← List.sum_append, ← List.map_append, List.take_append_drop]
  omega

end Go.Proofs.Yticbjaclnneaoaa.Oct
