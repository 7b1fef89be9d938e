/- Rings: Drop, Read, Len. -/
import Derived.Test.YtmellidlnggldaaMoves
namespace Go.Proofs.Ytmellidlnggldaa.Ring
set_option linter.unusedVariables false
open Go.RowKit Go.Proofs.YtmellidlnggldaaW.PrintWords Go.Proofs.YtmellidlnggldaaW.PrintLast Go.Proofs.YtmellidlnggldaaW.PrintMore Go.Proofs.Ytmellidlnggldaa.Book Go.Proofs.Ytmellidlnggldaa.Oct Go.Proofs.Ytmellidlnggldaa.Pure
set_option linter.unusedSimpArgs false

theorem drop_ring {w w' : World} {r p : Nat} {o k s m : Int} {MA : Option Addr} {c start : Nat} {ys xs : List Int} (hR : RingAt w r p o k s m MA c start ys xs) (n : Nat) (hn : n ≤ xs.length) (hu : Upd (fun j => j = r) w w')
    (hhead : w'.heap[r]? = some (ringCells p o k s m false (.slice MA c c) ↑(cellS c start n) ((xs.length : Int) - n))) : RingAt w' r p o k s m MA c (cellS c start n) ys (xs.drop n) := by
  have hl : ((xs.drop n).length : Int) = (xs.length : Int) - n := by rw [List.length_drop]; omega
  refine ⟨by rw [hl]; exact hhead, hR.mem.imp id (fun ⟨mb, e, hrow⟩ => ⟨mb, e, hrow.upd hu (fun e2 => hR.ring_mem e e2.symm)⟩), hR.full, hR.small, by have := hR.fits; rw [List.length_drop]; omega, ?_, ?_, hR.pol⟩
  · by_cases h0 : c = 0
    · right; exact ⟨h0, by unfold cellS; rw [if_pos h0]⟩
    · left; unfold cellS; rw [if_neg h0]; exact Nat.mod_lt _ (by omega)
  · by_cases h0 : c = 0
    · have : xs = [] := List.eq_nil_of_length_eq_zero (by have := hR.fits; omega)
      subst this
      have hy : ys = [] := List.eq_nil_of_length_eq_zero (by have := hR.full; omega)
      subst hy
      simp [ringTake]
    · have hs : start < ys.length := by have := hR.full; rcases hR.starts with h | h <;> omega
      have h1 := take_at (at_ := n) (n := xs.length - n) hs hR.shows (by have := hR.full; have := hR.fits; omega) (by omega)
      rw [hR.full] at h1
      unfold cellS
      rw [if_neg h0, List.length_drop, h1]
      exact List.take_of_length_le (by rw [List.length_drop]; omega)

set_option maxHeartbeats 1000000 in
set_option maxRecDepth 100000 in
theorem drop {w : World} {r p : Nat} {o k s m : Int} {MA : Option Addr} {c start : Nat} {ys xs : List Int} (hR : RingAt w r p o k s m MA c start ys xs) (n : Nat) (hn : n ≤ xs.length) :
    Calls Try.prog 34 #[.pointer (some ⟨r, 0, none⟩), .int .i64 n] w fun e w' => e = .returned (.int .i64 0) ∧ RingAt w' r p o k s m MA c (cellS c start n) ys (xs.drop n) ∧ Upd (fun j => j = r) w w' := by
  have HR := Aside0.mk hR
  obtain ⟨h0, h1, h2, h3, h4, h5, h6, h7, h8⟩ := ring_cells hR.head
  have hf := hR.fits
  have hc := hR.small
  have hst := hR.start_le
  have hn0 : 0 + n ≤ xs.length := by omega
  have hfr : ∀ i, w.frozen? ⟨r, i, none⟩ = false := fun i => blk_frozen hR.head i
  have hfr7 := hfr 7
  have hd := Aside0.mk (fun (w' : World) hu hh => drop_ring (w' := w') hR n hn hu hh)
  clear hR h0 h1 h2 h3 h4 h5 h6 hfr
  go_enter Try.func34, Try.ntmps34
  go_wp2_with fail
  refine (has_ok HR.out 0 n hn0).mono ?_
  rintro e w1 ⟨rfl, rfl⟩
  go_wp2_with fail
  refine (cell r p o k s m false MA c start n xs.length w HR.out.head hc hst (by omega)).mono ?_
  rintro e w2 ⟨rfl, m2, rfl⟩
  obtain ⟨st, hs⟩ : ∃ st, st = cellS c start n := ⟨_, rfl⟩
  rw [← hs] at hd ⊢
  have HST := Lib.hid hs
  clear hs
  have hE1 := blk_set (show (w.drewN m2).heap[r]? = some _ from HR.out.head) 7 (.int .i64 (st : Int))
  have hfr8 : ((w.drewN m2).setCell ⟨r, 7, none⟩ (.int .i64 (st : Int))).frozen? ⟨r, 8, none⟩ = false := blk_frozen hE1 8
  have hc8 : ((w.drewN m2).setCell ⟨r, 7, none⟩ (.int .i64 (st : Int))).cell? ⟨r, 8, none⟩ = some (.int .i64 xs.length) := by rw [blk_cell hE1]; rfl
  have hE2 := Aside0.mk (blk_set hE1 8 (.int .i64 ((xs.length : Int) - n)))
  clear hE1
  go_wp2_with fail
  go_ret
  have hU : Upd (fun j => j = r) w (((w.drewN m2).setCell ⟨r, 7, none⟩ (.int .i64 (st : Int))).setCell ⟨r, 8, none⟩ (.int .i64 ((xs.length : Int) - n))) := ((Upd.of_below (S := fun j => j = r) (pw_below_drewN (Below.refl w.heap.size w) m2)).setCell ⟨r, 7, none⟩ (.inl rfl) _).setCell ⟨r, 8, none⟩ (.inl rfl) _
  exact ⟨rfl, by rw [← HST.out]; exact hd.out _ hU (by have := hE2.out; unfold ringCells; simpa using this), hU⟩

set_option maxHeartbeats 1000000 in
set_option maxRecDepth 100000 in
theorem read {w : World} {r p : Nat} {o k s m : Int} {MA : Option Addr} {c start : Nat} {ys xs : List Int} (hR : RingAt w r p o k s m MA c start ys xs) (n : Nat) (hn : n ≤ xs.length) :
    Calls Try.prog 11 #[.pointer (some ⟨r, 0, none⟩), .int .i64 n] w fun e w' => ∃ B cap, e = .returned (.tuple #[.slice B n cap, .int .i64 0]) ∧ n ≤ cap ∧ ReadsInt w' .u8 B n (xs.take n) ∧ (∀ ad, B = some ad → w.heap.size ≤ ad.block) ∧ RingAt w' r p o k s m MA c (cellS c start n) ys (xs.drop n) ∧ Upd (fun j => j = r) w w' := by
  have HR := Aside0.mk hR
  have hf := hR.fits
  have hc := hR.small
  have hst := hR.start_le
  have hn0 : 0 + n ≤ xs.length := by omega
  have hsh : Hid (ringTake ys (cellS c start 0) n = xs.take n) := Lib.hid (by
    by_cases h0 : c = 0
    · have : xs = [] := List.eq_nil_of_length_eq_zero (by omega)
      subst this
      have hy : ys = [] := List.eq_nil_of_length_eq_zero (by have := hR.full; omega)
      subst hy
      have : n = 0 := by simpa using hn
      subst this
      simp [ringTake]
    · have hs : start < ys.length := by have := hR.full; rcases hR.starts with h | h <;> omega
      have h1 := take_at (at_ := 0) (n := n) hs hR.shows (by have := hR.full; omega) (by omega)
      rw [hR.full] at h1
      unfold cellS
      rw [if_neg h0, h1]
      simp)
  clear hR
  go_enter Try.func11, Try.ntmps11
  go_wp2_with fail
  refine (has_ok HR.out 0 n hn0).mono ?_
  rintro e w1 ⟨rfl, rfl⟩
  go_wp2_with fail
  refine (octets r p o k s m false MA c start 0 n xs.length ys w HR.out.head HR.out.reads HR.out.none_zero hc hst (by omega) (by omega)).mono ?_
  rintro e w2 ⟨B, cap, rfl, hN⟩
  rw [hsh.out] at hN
  have HN := Aside0.mk hN
  have HR2 := Aside0.mk (HR.out.below hN.below)
  clear hN
  go_wp2_with fail
  refine (drop HR2.out n hn).mono ?_
  rintro e w3 ⟨rfl, h1, h2⟩
  have H1 := Aside0.mk h1
  have H2 := Aside0.mk h2
  clear h1 h2
  go_wp2_with fail
  go_ret2
  refine ⟨B, cap, rfl, HN.out.fits, reads_upd HN.out.reads H2.out (fun ad e _ => ?_), fun ad e => (by obtain ⟨g, rfl, hy, _⟩ := HN.out.young ad e; exact hy), H1.out, (Upd.of_below HN.out.below).then H2.out (fun j hj => .inl hj)⟩
  obtain ⟨g, rfl, hy, _⟩ := HN.out.young ad e
  have := HR.out.lt
  intro e2
  simp only at e2
  omega

end Go.Proofs.Ytmellidlnggldaa.Ring
