/- TopMoves: a look at a ring shares with it just as long as its Room does not change. -/
import Derived.Test.YtmellidlnggldaaRing4
namespace Go.Proofs.Ytmellidlnggldaa.Ring
set_option linter.unusedVariables false
open Go.RowKit Go.Proofs.YtmellidlnggldaaW.PrintWords Go.Proofs.YtmellidlnggldaaW.PrintLast Go.Proofs.YtmellidlnggldaaW.PrintMore Go.Proofs.Ytmellidlnggldaa.Book Go.Proofs.Ytmellidlnggldaa.Oct Go.Proofs.Ytmellidlnggldaa.Pure
set_option linter.unusedSimpArgs false

set_option maxRecDepth 100000 in
theorem newBook_bad (budget : Int) (w : World) (hb : ¬ (0 ≤ budget ∧ budget ≤ 10000000)) :
    Calls Try.prog 5 #[.int .i64 budget] w fun e w' => e = .returned (.tuple #[.pointer none, .int .i64 2]) ∧ w = w' := by
  have hd : decide (0 ≤ budget ∧ budget ≤ 10000000) = false := decide_eq_false hb
  go_enter Try.func5, Try.ntmps5
  go_wp2_with (first | (go_at_call 19; refine (Book.within _ _ _ _).mono ?_; rintro e w' ⟨rfl, rfl⟩; rw [hd]))
  go_ret2
  exact ⟨rfl, rfl⟩
set_option maxRecDepth 100000 in
theorem awakeLedger (w : World) : Calls Try.prog 4 #[] w fun e w' => e = .returned (.bool true) ∧ w = w' := by
  go_enter Try.func4, Try.ntmps4
  go_wp2_with (first | (go_at_call 5; refine (newBook_bad (-1) w (by omega)).mono ?_; rintro e w' ⟨rfl, rfl⟩))
  go_ret
  exact ⟨rfl, rfl⟩

/-- The book that has one account, number 1, which may hold all. -/
def bk0 : BookS := { (⟨10000000, 0, 0, 0, [], [], []⟩ : BookS) with accs := [] ++ [(1, ⟨10000000, 0, 0⟩)], entries := [] ++ [[.int .i64 1, .int .i64 1, .int .i64 0, .int .i64 10000000, .int .i64 0, .int .i64 0]] }
theorem bk0_OK : bk0.OK where
  b0 := by simp [bk0]
  b1 := by simp [bk0]
  t0 := by simp [bk0]
  t1 := by simp [bk0]
  accs := fun x hx => by
    simp [bk0] at hx
    subst hx
    simp
  sum := by simp [bk0]
theorem newBook_foot {B : Nat} : ∀ k, Parts.Foot (B + 1) ⟨B, [], .slice none 0 0, .slice none 0 0⟩ k → B ≤ k := fun k hk => by
  rcases hk with h | h | h | h | h
  · omega
  · exact Nat.le_of_eq h.symm
  · simp at h
  · simp [Value.ownBlock] at h
  · simp [Value.ownBlock] at h
/-- NewBook and Open, one after the other. -/
theorem opened {w w1 w2 : World} {B : Nat} {q : Parts} (hB : w.heap.size = B) (hb : Below w.heap.size w w1) (hk : Upd (Parts.Foot (B + 1) ⟨B, [], .slice none 0 0, .slice none 0 0⟩) w1 w2) (hf : ∀ k, q.Foot (B + 1) k → Parts.Foot (B + 1) ⟨B, [], .slice none 0 0, .slice none 0 0⟩ k ∨ w1.heap.size ≤ k) : Below w.heap.size w w2 ∧ ∀ k, q.Foot (B + 1) k → w.heap.size ≤ k := by
  subst hB
  exact ⟨hb.trans (hk.below hb.size newBook_foot), fun k hk => (hf k hk).elim (newBook_foot k) (fun h => Nat.le_trans hb.size h)⟩

end Go.Proofs.Ytmellidlnggldaa.Ring
