/- slices.Repeat of one number: the pure part. -/
import Derived.Test.YtghdeoeajbnfkaaWMul
import Derived.Lib.AppendStr
namespace Go.Proofs.Ytghdeoeajbnfkaa.WSl
open Go.RowKit Go.Proofs.YtghdeoeajbnfkaaW.PrintWords Go.Proofs.YtghdeoeajbnfkaaW.PrintLast Go.Proofs.YtghdeoeajbnfkaaW.PrintMore Go.Proofs.Ytghdeoeajbnfkaa.WMem
set_option linter.unusedSimpArgs false
set_option linter.unusedVariables false

theorem infoI1 : (Try.prog.info? 3).map (·.size) = some 1 := by kernel_rfl

/-- A row of n numbers at block g of which the first m are -1. -/
structure RMid (wB wr : World) (g n m : Nat) : Prop where
  only : Only (fun k _ => k = g) wB wr
  cell : ∀ j, j < n → wr.cell? ⟨g, j, none⟩ = some (.int .i64 (if j < m then -1 else 0)) ∧ wr.frozen? ⟨g, j, none⟩ = false

/-- k more. -/
theorem RMid.step {wB wr : World} {g n m : Nat} (h : RMid wB wr g n m) (k : Nat) (hk : m + k ≤ n) : RMid wB (wr.setCells g m (List.replicate k (.int .i64 (-1)))) g n (m + k) := by
  refine ⟨Only.setCells _ _ _ _ h.only (fun _ _ => .inl rfl), fun j hj => ⟨?_, ?_⟩⟩
  · by_cases hin : m ≤ j ∧ j < m + k
    · have := World.cell?_setCells_in g (List.replicate k (Value.int .i64 (-1))) m wr (fun i hi => by
        have hi : i < k := by simpa using hi
        rw [(h.cell (m + i) (by omega)).1]; rfl) (j - m) (by simp; omega)
      rw [show m + (j - m) = j by omega] at this
      rw [this, List.getElem_replicate, if_pos (by omega)]
    · rw [World.cell?_setCells_out _ _ _ _ _ (fun _ _ => by simp only [List.length_replicate]; omega), (h.cell j hj).1]
      congr 3
      simp only [eq_iff_iff]
      omega
  · rw [World.frozen?_setCells]
    exact (h.cell j hj).2

/-- A copy of numbers that are all -1. -/
theorem run_copy_ones (wr : World) (g m dn dc : Nat) (a : Addr) (sn sc k : Nat) (hk : k = min sn dn) (hs : ∀ j, j < k → wr.cell? (a.add j) = some (.int .i64 (-1))) (hd : ∀ j, j < k → (wr.cell? ⟨g, m + j, none⟩).isSome = true ∧ wr.frozen? ⟨g, m + j, none⟩ = false) (ty : TypeId) :
    (Builtin.copy_ #[35, 35] ty #[.slice (some ⟨g, m, none⟩) dn dc, .slice (some a) sn sc]).run Try.prog wr = .ok (goInt k) (wr.setCells g m (List.replicate k (.int .i64 (-1)))) := by
  have := Go.run_copy_cells (P := Try.prog) wr 35 35 ty 3 g m dn dc a sn sc (List.replicate k (.int .i64 (-1))) Try.underlying35 infoI1 (by simp [hk]) (fun j v hj => by
      have hlt : j < k := by
        have := (List.getElem?_eq_some_iff.1 hj).1
        simpa using this
      rw [hs j hlt, ← hj, List.getElem?_replicate, if_pos hlt])
    (fun j hj => (hd j (by simpa using hj)).1) (fun j hj => (hd j (by simpa using hj)).2) (by intro v hv; rw [List.eq_of_mem_replicate hv]; rfl)
  rw [this]
  simp

/-- In the end: a row of one's own. -/
theorem RMid.own {wB wr : World} {g n : Nat} {cs : Array Value} (h : RMid wB wr g n n) (hg : wB.heap[g]? = some (.cells cs 3 (0, 0))) (hcs : cs.size = n) (hn : n ≤ maxLen) (base : Nat) (hb : base ≤ g) :
    Kd.R (Kd.int .i64) 3 wr base (fun j => base ≤ j) (.slice (some ⟨g, 0, none⟩) n n) (List.replicate n (-1)) := by
  have hblk : ∃ cs', wr.heap[g]? = some (.cells cs' 3 (0, 0)) ∧ cs'.size = n := by
    rcases h.only.block g (blk_lt hg) with e | ⟨c1, c2, t, f, e1, e2, e3, _⟩
    · exact ⟨cs, e.trans hg, hcs⟩
    · rw [hg] at e1
      cases e1
      exact ⟨c2, e2, by omega⟩
  obtain ⟨cs', hb2, hs2⟩ := hblk
  have hall : cs'.toList = (List.replicate n (-1)).map (Value.int .i64) := by
    apply List.ext_getElem?
    intro j
    by_cases hj : j < n
    · have := (h.cell j hj).1
      rw [blk_cell hb2, if_pos hj] at this
      rw [Array.getElem?_toList, this]
      simp [hj]
    · rw [List.getElem?_eq_none (by simp; omega), List.getElem?_eq_none (by simp; omega)]
  have ho : wr.ownsRow base 3 1 (.slice (some ⟨g, 0, none⟩) n n) n ((List.replicate n (-1)).map (Value.int .i64)) := by
    refine ⟨by simp, .inr ⟨g, n, cs', rfl, hb, hb2, Nat.le_refl _, hn, by omega, ?_⟩⟩
    rw [← hall]
    simp only [Nat.mul_one]
    exact List.take_of_length_le (by simp [hs2])
  refine Kd.R_of_own ?_ (fun k hk => ?_)
  · rw [List.length_replicate]
    exact ho
  · simp [Value.ownBlock] at hk
    omega

end Go.Proofs.Ytghdeoeajbnfkaa.WSl
