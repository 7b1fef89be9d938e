/- slices.Chunk: what its iterator gives. -/
import Derived.Test.YtmellidlnggldaaPull
import Derived.RangeFuncNested
import Derived.RangeFuncFrom
import Derived.RangeFuncCalls
import Derived.RangeFuncLeaves
import Derived.Shelf.Abstract
import Derived.Shelf.RegionOpen
import Derived.OwnWalkIn
import Derived.TacticsInMore
import Derived.LoopNIn
import Derived.LoopIn
namespace Go.Proofs.Ytmellidlnggldaa.Ring
set_option linter.unusedVariables false
open Go.RowKit Go.Proofs.YtmellidlnggldaaW.PrintWords Go.Proofs.YtmellidlnggldaaW.PrintLast Go.Proofs.YtmellidlnggldaaW.PrintMore Go.Proofs.Ytmellidlnggldaa.Book Go.Proofs.Ytmellidlnggldaa.Oct Go.Proofs.Ytmellidlnggldaa.Pure
set_option linter.unusedSimpArgs false
attribute [local go_sem] Oper.semAt_some

/-- How many octets piece number k has. -/
def pieceN (len S k : Nat) : Nat := min S (len - k * S)
/-- Piece number k, as a value. -/
def pieceV (A : Option Addr) (len S k : Nat) : Value := .slice (A.map (·.add (k * S))) (pieceN len S k) (pieceN len S k)

/-- The two boxes of the iterator. -/
structure Boxes (W : World) (b2 b3 : Nat) (A : Option Addr) (len cap S : Nat) : Prop where
  s : W.heap[b2]? = some (.cells #[.slice A len cap] 37)
  n : W.heap[b3]? = some (.cells #[.int .i64 S] 3)
/-- What a round keeps. -/
def KeepB (b2 b3 : Nat) (A : Option Addr) (len cap S : Nat) (W W' : World) : Prop := Boxes W b2 b3 A len cap S → Boxes W' b2 b3 A len cap S
theorem keepB_t {b2 b3 : Nat} {A : Option Addr} {len cap S : Nat} {X Y Z : World} (h : KeepB b2 b3 A len cap S X Y) (k : KeepB b2 b3 A len cap S Y Z) : KeepB b2 b3 A len cap S X Z := fun hb => k (h hb)
theorem keepB_b {b2 b3 : Nat} {A : Option Addr} {len cap S : Nat} (W : World) (l : Nat) (o o' : Obj) (h : W.heap[l]? = some o) (ho : o.isCells = false) : KeepB b2 b3 A len cap S W (W.putObj l o') := fun hb => by
  have h2 : l ≠ b2 := fun e => by subst e; rw [hb.s] at h; cases h; cases ho
  have h3 : l ≠ b3 := fun e => by subst e; rw [hb.n] at h; cases h; cases ho
  exact ⟨(World.putObj_heap_other (Ne.symm h2)).trans hb.s, (World.putObj_heap_other (Ne.symm h3)).trans hb.n⟩

theorem fin_take {M : Nat} (k : Nat) (h : k < M) : (List.finRange M).take (k + 1) = (List.finRange M).take k ++ [⟨k, h⟩] := by
  rw [List.take_add_one]
  congr 1
  rw [List.getElem?_eq_getElem (by simpa using h)]
  simp

set_option maxHeartbeats 1000000 in
set_option maxRecDepth 100000 in
/-- The iterator gives the pieces, in order. -/
theorem chunks_stops (n : Nat) (hn : 1 ≤ n) (b2 b3 : Nat) (A : Option Addr) (len cap S M : Nat) (hS : 0 < S) (hS1 : S ≤ 100000) (hl : len ≤ cap) (hlen : len ≤ 100000) (hM1 : len ≤ M * S) (hM2 : M * S < len + S) (w : World) (hb2 : b2 < w.heap.size) (hb3 : b3 < w.heap.size) (hbx : Boxes w b2 b3 A len cap S) :
    SeqStopsK Fence.wide n Try.prog 45 #[.pointer (some ⟨b2, 0, none⟩), .pointer (some ⟨b3, 0, none⟩)] (fun k : Fin M => #[pieceV A len S k.val]) (KeepB b2 b3 A len cap S) (fun xs => xs = List.finRange M) (fun _ => True) M w := fun l J Jx W hW hJ hJx hY h0 => by
  have hB0 : Boxes W b2 b3 A len cap S := ⟨(hW.block _ hb2).trans hbx.s, (hW.block _ hb3).trans hbx.n⟩
  have HJ := Aside0.mk hJ
  have HY := Aside0.mk hY
  have HB0 := Aside0.mk hB0
  have H0 := Aside0.mk (show J ((List.finRange M).take 0) W from h0)
  clear hW hJ hJx hY h0 hB0 hbx
  refine callsIn_of_wp Try.func45 rfl trivial ?_ rfl
  simp only [Try.ntmps45, List.size_toArray, List.length_cons, List.length_nil, Nat.reduceAdd, Nat.reduceSub, Array.replicate_succ, Array.replicate_zero, List.push_toArray, List.append_toArray, List.nil_append, List.cons_append]
  gi_wp2
  gi_loopw [4, 5] (fun i _ wr => ∃ k q : Nat, k ≤ M ∧ i = .int .i64 (q : Int) ∧ Hid (q = k * S) ∧ Aside0 (Boxes wr b2 b3 A len cap S) ∧ Aside0 (J ((List.finRange M).take k) wr)) (fun i _ _ => len + S - (intOf i).toNat)
  case atStart => exact ⟨0, 0, Nat.zero_le _, rfl, Lib.hid (by simp), HB0, H0⟩
  case round =>
    obtain ⟨k, q, hk, rfl, HQ, HB, HJs⟩ := hrel
    have hc2 : wr.cell? ⟨b2, 0, none⟩ = some (.slice A len cap) := by rw [blk_cell HB.out.s]; rfl
    have hc3 : wr.cell? ⟨b3, 0, none⟩ = some (.int .i64 S) := by rw [blk_cell HB.out.n]; rfl
    by_cases hlt : q < len
    · have hkM : k < M := by
        by_cases h : k < M
        · exact h
        · have : k = M := by omega
          have := HQ.out
          subst k
          omega
      have hqS : q + S < len + S := by omega
      obtain ⟨r, hr⟩ : ∃ r, r = len - q := ⟨_, rfl⟩
      obtain ⟨d, hd⟩ : ∃ d, d = min S r := ⟨_, rfl⟩
      obtain ⟨A1, hs1, _⟩ := sub_from A len cap q ↑q rfl (by omega)
      obtain ⟨A', hs3, hA'⟩ := sub_three A len cap q (q + d) (by omega) (by omega)
      rw [← hr] at hs1
      have e9 : q + d - q = d := by omega
      rw [e9] at hs3
      simp only [Int.natCast_add] at hs3
      have hpv : pieceV A len S k = .slice A' d d := by
        unfold pieceV pieceN
        rw [← HQ.out, ← hr, ← hd, hA' (by omega)]
      have hmin : (if (r : Int) < (S : Int) then (r : Int) else (S : Int)) = (d : Int) := by split <;> omega
      have hmin2 : (if (S : Int) < (r : Int) then (S : Int) else (r : Int)) = (d : Int) := by split <;> omega
      have hmin3 : (if r < S then (r : Int) else (S : Int)) = (d : Int) := by split <;> omega
      have hmin4 : (if S < r then (S : Int) else (r : Int)) = (d : Int) := by split <;> omega
      have hdS : d ≤ S := by omega
      have HPV := Lib.hid hpv
      clear hA' hpv hr hd e9
      gi_wp2
      gi_region
      obtain ⟨fn, tmps, assign, body, hy, hR⟩ := HY.out ((List.finRange M).take k) ⟨k, hkM⟩ wr.drew (HJ.out _ _ _ none HJs.out ⟨rfl, rfl, rfl, Nat.le_refl _, fun _ _ _ => rfl⟩ (fun r e => by cases e)) (by simp; omega)
      rw [HPV.out] at hy
      have HR := Aside0.mk hR
      have hwq : IntKind.i64.wrap ((q : Int) + (d : Int)) = (q : Int) + (d : Int) := IntWalk.i64_in _ ⟨by omega, by omega⟩
      clear hR
      gi_wp2
      refine HR.out.mono ?_
      rintro e W3 (⟨rfl, hJ3, hk3⟩ | ⟨rfl, hJx3⟩)
      · have HB3 := Aside0.mk (hk3 (show Boxes wr.drew b2 b3 A len cap S from ⟨HB.out.s, HB.out.n⟩))
        have hc33 : W3.cell? ⟨b3, 0, none⟩ = some (.int .i64 S) := by rw [blk_cell HB3.out.n]; rfl
        have HJ3 := Aside0.mk hJ3
        clear hJ3 hk3
        gi_wp2
        refine ⟨⟨k + 1, q + S, by omega, by go_num, Lib.hid (by rw [HQ.out, Nat.succ_mul]), HB3, ⟨by rw [fin_take k hkM]; exact HJ3.out⟩⟩, ?_⟩
        simp [intOf]
        omega
      · gi_wp2
        refine bodyPost_ret (results_none rfl _ _ _) rfl ?_
        exact ⟨⟨_, rfl⟩, .inr ⟨_, trivial, hJx3⟩⟩
    · have hkM : k = M := by
        by_cases h : k < M
        · have h1 := Nat.mul_le_mul_right S (show k + 1 ≤ M by omega)
          rw [Nat.succ_mul] at h1
          have := HQ.out
          omega
        · omega
      have HE : Hid ((List.finRange M).take k = List.finRange M) := Lib.hid (List.take_of_length_le (by simp; omega))
      clear hkM
      gi_wp2
      go_end0
      exact ⟨⟨_, rfl⟩, .inl ⟨_, rfl, by have := HJs.out; rw [HE.out] at this; exact this⟩⟩

set_option maxHeartbeats 1000000 in
set_option maxRecDepth 100000 in
/-- slices.Chunk: the iterator and its two boxes. -/
theorem chunkOf (A : Option Addr) (len cap S : Nat) (hS : 0 < S) (w : World) :
    Calls Try.prog 30 #[.slice A len cap, .int .i64 S] w fun e w' => e = .returned (.func (.func 45) #[] #[.pointer (some ⟨w.heap.size, 0, none⟩), .pointer (some ⟨w.heap.size + 1, 0, none⟩)]) ∧ Boxes w' w.heap.size (w.heap.size + 1) A len cap S ∧ Below w.heap.size w w' ∧ w'.heap.size = w.heap.size + 2 := by
  have hd : decide ((S : Int) < 1) = false := decide_eq_false (by omega)
  go_enter Try.func30, Try.ntmps30
  go_wp2
  go_ret
  refine ⟨rfl, ⟨?_, ?_⟩, below_alloc (below_alloc (Below.refl _ _) _) _, by simp⟩
  · rw [Below.heap_alloc _ _ _ (by simp)]
    exact blk_new _ _
  · exact two_new w _ _
end Go.Proofs.Ytmellidlnggldaa.Ring
