/- Clone and Concat of octets. -/
import Derived.Test.YtmellidlnggldaaOct
import Derived.Lib.LazyBuf
import Derived.Laws.AppendOwnNone
import Derived.Lib.AppendZeros
import Derived.Lib.AppendZerosOnto
namespace Go.Proofs.Ytmellidlnggldaa.Oct
open Go.RowKit Go.Proofs.YtmellidlnggldaaW.PrintWords Go.Proofs.YtmellidlnggldaaW.PrintLast Go.Proofs.YtmellidlnggldaaW.PrintMore Go.Proofs.Ytmellidlnggldaa.Book
set_option linter.unusedSimpArgs false

/-- A new list of octets, or an empty one. -/
structure NewRow (w w' : World) (A : Option Addr) (n cap : Nat) (xs : List Int) : Prop where
  reads : ReadsInt w' .u8 A n xs
  fits : n ≤ cap
  below : Below w.heap.size w w'
  young : ∀ ad, A = some ad → ∃ g, ad = ⟨g, 0, none⟩ ∧ w.heap.size ≤ g ∧ g < w'.heap.size
  nil : A = none → n = 0 ∧ cap = 0

theorem own_zero8 (w : World) (base : Nat) (hb : base ≤ w.heap.size) : (w.alloc (.cells #[] 5)).ownsRow base 5 1 (.slice (some ⟨w.heap.size, 0, none⟩) 0 0) 0 [] :=
  ⟨by simp, .inr ⟨w.heap.size, 0, #[], rfl, hb, blk_new _ _, by simp⟩⟩
theorem own_low {w : World} {base e size n : Nat} {v : Value} {xs : List Value} (h : w.ownsRow base e size v n xs) (k : Nat) (hk : v.ownBlock = some k) : base ≤ k := by
  obtain ⟨hl, ⟨rfl, _⟩ | ⟨g, c, cur, rfl, h1, _⟩⟩ := h
  · simp [Value.ownBlock] at hk
  · obtain rfl : g = k := by simpa [Value.ownBlock] using hk
    exact h1
theorem own_nil8 (w : World) (base : Nat) : w.ownsRow base 5 1 (.slice none 0 0) 0 [] := ⟨rfl, .inl ⟨rfl, rfl⟩⟩

/-- What a row of one's own reads. -/
theorem own_reads8 {w : World} {base n : Nat} {v : Value} {xs : List Int} (h : w.ownsRow base 5 1 v n (lits8 xs)) : ∃ A cap, v = .slice A n cap ∧ n ≤ cap ∧ cap ≤ maxLen ∧ ReadsInt w .u8 A n xs ∧ (∀ ad, A = some ad → ∃ g, ad = ⟨g, 0, none⟩ ∧ base ≤ g ∧ g < w.heap.size) ∧ (A = none → n = 0 ∧ cap = 0) := by
  obtain ⟨hl, ⟨rfl, rfl⟩ | ⟨g, cap, cur, rfl, hb, hh, hc, hm, hs, ht⟩⟩ := h
  · have : xs = [] := by simpa [lits8] using hl
    subst this
    exact ⟨none, 0, rfl, Nat.le_refl _, Nat.zero_le _, reads_nothing _ _ _, (fun ad e => by cases e), fun _ => ⟨rfl, rfl⟩⟩
  · have hx : xs.length = n := by simpa [lits8] using hl
    refine ⟨some ⟨g, 0, none⟩, cap, rfl, hc, hm, ⟨hx, by unfold maxLen at hm; omega, fun h0 => ⟨_, rfl, fun j hj => ?_⟩⟩, fun ad e => ⟨g, (Option.some.inj e).symm, hb, blk_lt hh⟩, fun e => by cases e⟩
    rw [add_zero', blk_cell hh j, ← lits8_get xs j (by omega), ← ht]
    simp only [Nat.mul_one]
    rw [List.getElem?_take_of_lt hj]
    simp

theorem old_cell {w w1 : World} {a : Addr} {v : Value} (h : w.cell? a = some v) (hb : Below w.heap.size w w1) : w1.cell? a = some v := by
  rw [← h]
  exact hb.cell (p := a) (World.block_lt_of_cell? w _ h)

theorem reads_all {w : World} {ad : Addr} {n : Nat} {xs : List Int} (hr : ReadsInt w .u8 (some ad) n xs) : ∀ j v, (lits8 xs)[j]? = some v → w.cell? (ad.add j) = some v := fun j v hj => by
  by_cases h0 : 0 < (lits8 xs).length
  · obtain ⟨ad', e, h⟩ := reads_cells hr h0
    obtain rfl := Option.some.inj e
    exact h j v hj
  · have : lits8 xs = [] := List.eq_nil_of_length_eq_zero (by omega)
    rw [this] at hj; simp at hj

set_option maxHeartbeats 1000000 in
set_option maxRecDepth 100000 in
theorem clone8 (A : Option Addr) (n c : Nat) (xs : List Int) (w : World) (hr : ReadsInt w .u8 A n xs) (hn : n ≤ 140737488355328) (hnil : A = none → n = 0 ∧ c = 0) :
    Calls Try.prog 24 #[.slice A n c] w fun e w' => ∃ B cap, e = .returned (.slice B n cap) ∧ NewRow w w' B n cap xs := by
  cases A with
  | none =>
    obtain ⟨rfl, rfl⟩ := hnil rfl
    have hx : xs = [] := List.eq_nil_of_length_eq_zero hr.1
    subst hx
    have he := fun u : World => run_eql_slice_nil (P := Try.prog) u 37 5 none 0 0 Try.underlying37
    clear hr
    go_enter Try.func24, Try.ntmps24
    go_wp2
    go_ret
    exact ⟨none, 0, rfl, reads_nothing _ _ _, Nat.le_refl _, Below.refl _ _, (fun ad e => by cases e), fun _ => ⟨rfl, rfl⟩⟩
  | some ad =>
    obtain ⟨i0, hi, hz0, hz1, hz2⟩ := info_parts infoU8
    have HR := Aside0.mk hr
    have hlen := Lib.hid hr.1
    have HO := Aside0.mk (own_zero8 w w.heap.size (Nat.le_refl _))
    have hc := reads_all hr
    have HC := Aside0.mk hc
    have he := fun u : World => run_eql_slice_nil (P := Try.prog) u 37 5 (some ad) n c Try.underlying37
    clear hr hc hnil
    go_enter Try.func24, Try.ntmps24
    go_wp2_with (at_builtin; refine wpList_append_own _ rfl (.tmp 5) (.tmp 6) 37 rfl w.heap.size 5 i0 (.int .u8 0) 1 1 Try.underlying37 hi hz0 hz1 hz2 rfl (by decide) (.slice (some ⟨w.heap.size, 0, none⟩) 0 0) 0 [] rfl HO.out ad n c (lits8 xs) rfl (by rw [lits8_length, hlen.out, Nat.mul_one]) (fun j v hj => old_cell (HC.out j v hj) (below_alloc (Below.refl _ _) _)) (lits8_one xs) (by simp only [maxLen]; omega) (by omega) (by simp) ?_; intro v' w1 ho hg _; have HO1 := Aside0.mk ho; have HG1 := Aside0.mk hg; clear ho hg)
    obtain ⟨B, cap, rfl, hf, _, hrd, hy, hni⟩ := own_reads8 (xs := xs) (n := n) (by simpa using HO1.out)
    have hb : Below w.heap.size w w1 := pw_below_grown (below_alloc (Below.refl _ _) _) _ (by simp) HG1.out (fun k hk => by simp [Value.ownBlock] at hk; omega)
    clear HO1 HG1
    have HX := Aside0.mk (NewRow.mk hrd hf hb hy hni)
    clear hrd hb hy hni
    go_wp2
    go_ret
    exact ⟨B, cap, rfl, HX.out⟩

/-- A row of one's own without elements yet, but with room: Grow of nil. -/
theorem own_zeros8 (u : World) (base n : Nat) (hb : base ≤ u.heap.size) (cs : Array Value) (hc : cs.size = n) (hn : n ≤ maxLen) : (u.alloc (.cells cs 5)).ownsRow base 5 1 (.slice (some ⟨u.heap.size, 0, none⟩) 0 n) 0 [] :=
  ⟨by simp, .inr ⟨u.heap.size, n, cs, rfl, hb, blk_new _ _, Nat.zero_le _, hn, by omega, by simp⟩⟩

set_option maxHeartbeats 1000000 in
set_option maxRecDepth 100000 in
theorem growNil8 (n : Nat) (w : World) (hn : n ≤ 140737488355328) :
    Calls Try.prog 51 #[.slice none 0 0, .int .i64 n] w fun e w' => ∃ v, e = .returned v ∧ w'.ownsRow w.heap.size 5 1 v 0 [] ∧ Below w.heap.size w w' := by
  obtain ⟨i0, hi, hz0, hz1, hz2⟩ := info_parts infoU8
  by_cases h0 : 0 < n
  · have hrz : ∀ ty, (Builtin.append_ #[37, 3] ty #[.slice none 0 0, .int .i64 n]).run Try.prog w =
        .ok (.slice (some ⟨w.heap.size, 0, none⟩) n (grownCap w n 0 5)) (w.drew.alloc (.cells (([] : List Value).toArray ++ Builtin.zeroCells (Value.int .u8 0).cells n ++ Builtin.zeroCells (Value.int .u8 0).cells (grownCap w n 0 5 - n)) 5)) := fun ty => by
      have h := Lib.run_append_grow_zeros (P := Try.prog) w 37 3 ty 5 i0 (.int .u8 0) .i64 .i64 Try.underlying37 Try.underlying3 hi hz0 none 0 0 [] (by exact run_firstCells_none w.drew i0.size 0 0 0) n h0 (by rw [hz1]; omega) (by omega) (by omega) (by rw [hz2]; omega)
        (by rw [hz2, Nat.zero_add]; exact growslice_fits h0 (by omega))
      simpa using h
    have hG := grownCap_ge w n 0 5
    have hG2 := grownCap_le_maxLen w n 0 5 (by unfold maxLen; omega)
    generalize grownCap w n 0 5 = G at hrz hG hG2
    have hG3 : G ≤ 9223372036854775807 := by unfold maxLen at hG2; omega
    have hO := Aside0.mk (own_zeros8 w w.heap.size G (Nat.le_refl _) (Builtin.zeroCells #[.int .u8 0] n ++ Builtin.zeroCells #[.int .u8 0] (G - n)) (by simp [Builtin.zeroCells]; omega) hG2)
    clear hi hz0 hz1 hz2
    go_enter Try.func51, Try.ntmps51
    go_wp2_with (at_builtin; refine Lib.wpList_append_run _ rfl _ _ _ _ rfl _ _ rfl rfl _ _ (hrz _) ?_)
    go_ret
    exact ⟨_, rfl, hO.out.drew, below_drew (below_alloc (Below.refl _ _) _)⟩
  · obtain rfl : n = 0 := by omega
    clear hi hz0 hz1 hz2
    go_enter Try.func51, Try.ntmps51
    go_wp2
    go_ret
    exact ⟨_, rfl, own_nil8 _ _, Below.refl _ _⟩

/-- A list of octets, as it is handed on. -/
structure Piece where
  A : Option Addr
  n : Nat
  c : Nat
  xs : List Int
def Piece.val (p : Piece) : Value := .slice p.A p.n p.c
def lenOf (L : List Piece) : Nat := (L.map (·.n)).sum
def allOf (L : List Piece) : List Int := L.flatMap (·.xs)
theorem lenOf_take (L : List Piece) (k : Nat) (h : k < L.length) : lenOf (L.take (k + 1)) = lenOf (L.take k) + L[k].n := by
  rw [List.take_succ_eq_append_getElem h]
  unfold lenOf
  rw [List.map_append, List.sum_append]
  simp
theorem allOf_take (L : List Piece) (k : Nat) (h : k < L.length) : allOf (L.take (k + 1)) = allOf (L.take k) ++ L[k].xs := by
  rw [List.take_succ_eq_append_getElem h]
  unfold allOf
  rw [List.flatMap_append]
  simp
theorem lenOf_le (L : List Piece) (k : Nat) : lenOf (L.take k) ≤ lenOf L := by
  have h : lenOf L = lenOf (L.take k) + lenOf (L.drop k) := by
    rw [lenOf, lenOf, lenOf, ← List.sum_append, ← List.map_append, List.take_append_drop]
  omega

set_option maxHeartbeats 2000000 in
set_option maxRecDepth 100000 in
theorem concat8 (g : Nat) (L : List Piece) (w : World) (hb : w.heap[g]? = some (.cells (L.map Piece.val).toArray 37)) (hr : ∀ p ∈ L, ReadsInt w .u8 p.A p.n p.xs) (hnil : ∀ p ∈ L, p.A = none → p.n = 0 ∧ p.c = 0) (hk : L.length ≤ 1000) (hs : lenOf L ≤ 140737488355328) :
    Calls Try.prog 46 #[.slice (some ⟨g, 0, none⟩) L.length L.length] w fun e w' => ∃ B cap, e = .returned (.slice B (lenOf L) cap) ∧ NewRow w w' B (lenOf L) cap (allOf L) := by
  have HB := Aside0.mk hb
  have HR := Aside0.mk hr
  have HN := Aside0.mk hnil
  have HS := Lib.hid hs
  clear hb hr hnil hs
  go_enter Try.func46, Try.ntmps46
  go_wp2
  go_loop [3, 5, 11] (fun s _ i => ∃ k : Nat, k ≤ L.length ∧ i = .int .i64 k ∧ s = .int .i64 (lenOf (L.take k))) (fun _ _ i => L.length - (intOf i).toNat)
  case atStart => exact ⟨0, Nat.zero_le _, rfl, rfl⟩
  case round =>
    obtain ⟨k, hk, rfl, rfl⟩ := hrel
    by_cases hlt : k < L.length
    · have hcell : w.cell? ⟨g, k, none⟩ = some (.slice L[k].A L[k].n L[k].c) := by
        rw [blk_cell HB.out k]
        simp [hlt, Piece.val]
      have hle := lenOf_le L (k + 1)
      have hst := lenOf_take L k hlt
      have h1 : lenOf (L.take k) + L[k].n ≤ 140737488355328 := by have := HS.out; omega
      have HST := Lib.hid hst
      clear hst hle
      go_wp2
      go_round
      case rel => exact ⟨k + 1, by omega, by go_num, by rw [HST.out]; go_num⟩
      case measure => simp [intOf]; omega
    · obtain rfl : k = L.length := by omega
      have htk : L.take L.length = L := List.take_length
      rw [htk]
      clear htk
      go_wp2_with fail
      refine (growNil8 (lenOf L) w HS.out).mono ?_
      rintro e w1 ⟨v, rfl, ho, hb1⟩
      have HO := Aside0.mk ho
      have HB1 := Aside0.mk hb1
      clear ho hb1
      go_wp2_with fail
      go_loopw [6, 8, 27] (fun u _ i (wr : World) => ∃ (k : Nat) (v : Value), k ≤ L.length ∧ i = .int .i64 k ∧ v = u ∧ Aside0 (wr.ownsRow w.heap.size 5 1 v (lenOf (L.take k)) (lits8 (allOf (L.take k)))) ∧ Aside0 (Below w.heap.size w wr)) (fun _ _ i _ => L.length - (intOf i).toNat)
      case atStart => exact ⟨0, _, Nat.zero_le _, rfl, rfl, HO, HB1⟩
      case round =>
        obtain ⟨k, v, hk2, rfl, rfl, HV, HW⟩ := hrel
        by_cases hlt : k < L.length
        · have hcell : wr.cell? ⟨g, k, none⟩ = some (.slice L[k].A L[k].n L[k].c) := by
            rw [blk_cell ((HW.out.block g (blk_lt HB.out)).trans HB.out) k]
            simp [hlt, Piece.val]
          have hle := lenOf_le L (k + 1)
          have hst := lenOf_take L k hlt
          have hal := allOf_take L k hlt
          have h1 : lenOf (L.take k) + L[k].n ≤ 140737488355328 := by have := HS.out; omega
          have HST := Lib.hid hst
          have HAL := Lib.hid hal
          have hmem : L[k] ∈ L := List.getElem_mem _
          have HRk := Aside0.mk (HR.out _ hmem)
          have HNk := Aside0.mk (HN.out _ hmem)
          clear hst hle hal hmem
          generalize L[k] = P at *
          obtain ⟨A, n, c, xs⟩ := P
          simp only at hcell h1 HST HAL HRk HNk
          obtain ⟨i0, hi, hz0, hz1, hz2⟩ := info_parts infoU8
          cases A with
          | none =>
            obtain ⟨rfl, rfl⟩ := HNk.out rfl
            have hx : xs = [] := List.eq_nil_of_length_eq_zero HRk.out.1
            subst hx
            go_wp2_with ((with_reducible refine gate_builtin (b := .append) (xs := #[.tmp 31, .tmp 32]) rfl ?_); at_builtin; refine wpList_append_own_none rfl (.tmp 31) (.tmp 32) 37 rfl w.heap.size 5 i0 1 Try.underlying37 hi v (lenOf (L.take k)) _ rfl HV.out rfl ?_)
            have HV2 : Aside0 (wr.ownsRow w.heap.size 5 1 v (lenOf (L.take (k + 1))) (lits8 (allOf (L.take (k + 1))))) := ⟨by rw [HST.out, HAL.out]; simpa using HV.out⟩
            refine ⟨⟨k + 1, _, by omega, by simp, rfl, HV2, HW⟩, ?_⟩
            show L.length - ((k : Int) + 1).toNat < L.length - (k : Int).toNat
            omega
          | some ad =>
            go_wp2_with ((with_reducible refine gate_builtin (b := .append) (xs := #[.tmp 31, .tmp 32]) rfl ?_); at_builtin; refine wpList_append_own _ rfl (.tmp 31) (.tmp 32) 37 rfl w.heap.size 5 i0 (.int .u8 0) 1 1 Try.underlying37 hi hz0 hz1 hz2 rfl (by decide) v (lenOf (L.take k)) _ rfl HV.out ad n c (lits8 xs) rfl (by rw [lits8_length, HRk.out.1, Nat.mul_one]) (fun j v hj => old_cell (reads_all HRk.out j v hj) HW.out) (lits8_one xs) (by simp only [maxLen]; omega) (by omega) HW.out.size ?_; intro v' w1 ho hg _; have HO1 := Aside0.mk ho; have HG1 := Aside0.mk hg; clear ho hg)
            have HV2 : Aside0 (w1.ownsRow w.heap.size 5 1 v' (lenOf (L.take (k + 1))) (lits8 (allOf (L.take (k + 1))))) := ⟨by rw [HST.out, HAL.out, lits8_append]; exact HO1.out⟩
            have HW2 : Aside0 (Below w.heap.size w w1) := ⟨pw_below_grown HW.out _ HW.out.size HG1.out (fun k hk => own_low HV.out k hk)⟩
            refine ⟨⟨k + 1, _, by omega, by simp, rfl, HV2, HW2⟩, ?_⟩
            show L.length - ((k : Int) + 1).toNat < L.length - (k : Int).toNat
            omega
        · obtain rfl : k = L.length := by omega
          have htk : L.take L.length = L := List.take_length
          rw [htk] at HV
          clear htk
          obtain ⟨B, cap, rfl, hf, _, hrd, hy, hni⟩ := own_reads8 HV.out
          have HX := Aside0.mk (NewRow.mk hrd hf HW.out hy hni)
          clear hrd hy hni
          go_wp2
          go_ret
          exact ⟨B, cap, rfl, HX.out⟩
end Go.Proofs.Ytmellidlnggldaa.Oct
