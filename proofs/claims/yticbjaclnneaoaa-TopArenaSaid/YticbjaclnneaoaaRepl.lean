/- Policies, copies, and edits of octets: CheckPolicy, Grow, copied, fit, Replace. -/
import Derived.Test.YticbjaclnneaoaaSlices
import Derived.Test.YticbjaclnneaoaaGrow
import Derived.Deep.DeepCutAuto
import Derived.IntWalk
import Derived.Deep.RegionHeld3
import Derived.Deep.DrawnRows
namespace Go.Proofs.Yticbjaclnneaoaa.Oct
open Go.RowKit Go.Proofs.YticbjaclnneaoaaW.PrintWords Go.Proofs.YticbjaclnneaoaaW.PrintLast Go.Proofs.YticbjaclnneaoaaW.PrintMore Go.Proofs.Yticbjaclnneaoaa.Book Go.Proofs.Yticbjaclnneaoaa.Pure
set_option linter.unusedSimpArgs false
set_option linter.unusedVariables false

theorem checkPolicy (k s m : Int) (w : World) : Calls Try.prog 25 #[.agg #[.int .i64 k, .int .i64 s, .int .i64 m]] w fun e w' => e = .returned (.int .i64 (rgFault k s m)) ∧ Below w.heap.size w w' :=
  PTopArena.room_CheckPolicy.calls 5 k s m _ w (rg_check 5 (Nat.le_refl _) k s m)
theorem grow (k s m room need : Int) (w : World) : Calls Try.prog 42 #[.agg #[.int .i64 k, .int .i64 s, .int .i64 m], .int .i64 room, .int .i64 need] w fun e w' => e = .returned (.tuple #[.int .i64 (rgGrow k s m room need).1, .int .i64 (rgGrow k s m room need).2]) ∧ Below w.heap.size w w' :=
  PTopArena.room_Grow.calls 70 k s m room need _ _ w (rg_grow 70 (Nat.le_refl _) k s m room need)
theorem withinR (a lo hi : Int) (w : World) : Calls Try.prog 41 #[.int .i64 a, .int .i64 lo, .int .i64 hi] w fun e w' => e = .returned (.bool (decide (lo ≤ a ∧ a ≤ hi))) ∧ ∃ m, w' = w.drewN m := by
  refine (PTopArena.room_within.calls a lo hi _ w ?_).mono fun e w' ⟨he, hd⟩ => ⟨he, hd.out⟩
  unfold PTopArena.room_within.f
  by_cases h1 : lo ≤ a <;> by_cases h2 : a ≤ hi <;> simp [h1, h2]
/-- Grow, where nothing is at fault and it is not full. -/
theorem grow_ok (k s m : Int) (room need : Nat) (hf : rgFault k s m = 0) (h1 : room ≤ 100000) (h2 : need ≤ 100000) (h3 : need ≤ room ∨ (need : Int) ≤ m) : ∃ r : Nat, rgGrow k s m room need = (↑r, 0) ∧ need ≤ r ∧ room ≤ r ∧ r ≤ 100000 ∧ (need ≤ room → r = room) := by
  have h0 : (rgGrow k s m room need).2 = 0 := by
    unfold rgGrow
    rw [if_neg (by omega), if_neg (by omega)]
    split
    · rfl
    · rw [if_neg (by omega)]
  obtain ⟨a1, a2, _, _, _, _, a7, _⟩ := rg_grow_le k s m room need h0
  refine ⟨(rgGrow k s m room need).1.toNat, ?_, by omega, by omega, by omega, fun h => ?_⟩
  · rw [← h0, Int.toNat_of_nonneg (by omega)]
  · unfold rgGrow
    rw [if_neg (by omega), if_neg (by omega), if_pos (by omega)]
    simp

theorem box_cells {w : World} {b : Nat} {k s m : Int} (h : w.heap[b]? = some (.cells #[.int .i64 k, .int .i64 s, .int .i64 m] 23)) : w.cell? ⟨b, 0, none⟩ = some (.int .i64 k) ∧ w.cell? ⟨b, 1, none⟩ = some (.int .i64 s) ∧ w.cell? ⟨b, 2, none⟩ = some (.int .i64 m) := by
  refine ⟨?_, ?_, ?_⟩ <;> rw [blk_cell h] <;> rfl
theorem box_later {w w1 : World} {k s m : Int} (h : Below (w.alloc (.cells #[.int .i64 k, .int .i64 s, .int .i64 m] 23)).heap.size (w.alloc (.cells #[.int .i64 k, .int .i64 s, .int .i64 m] 23)) w1) : w1.heap[w.heap.size]? = some (.cells #[.int .i64 k, .int .i64 s, .int .i64 m] 23) :=
  (h.block _ (by rw [alloc_size]; omega)).trans (blk_new w _)

end Go.Proofs.Yticbjaclnneaoaa.Oct
