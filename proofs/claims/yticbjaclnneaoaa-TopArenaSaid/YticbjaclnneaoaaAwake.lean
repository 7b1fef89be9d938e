/- A new book with one account; what lies apart from a book; memory that is made. -/
import Derived.Test.YticbjaclnneaoaaBook5
import Derived.Test.YticbjaclnneaoaaRepl
namespace Go.Proofs.Yticbjaclnneaoaa.Arena
set_option linter.unusedVariables false
open Go.RowKit Go.Proofs.YticbjaclnneaoaaW.PrintWords Go.Proofs.YticbjaclnneaoaaW.PrintLast Go.Proofs.YticbjaclnneaoaaW.PrintMore Go.Proofs.Yticbjaclnneaoaa.Book Go.Proofs.Yticbjaclnneaoaa.Oct
set_option linter.unusedSimpArgs false

section
variable {w : World} {p : Nat} {b : BookS} {q : Parts} {ys : List Int}
theorem not_foot (hB : BookAt w p b q) {k : Nat} {cs : Array Value} {t : TypeId} (h : w.heap[k]? = some (.cells cs t)) (h1 : t ≠ 60) (h2 : t ≠ 64) (h3 : t ≠ 127) (h4 : t ≠ 67) : ¬ q.Foot p k := by
  intro hk
  rcases hk with rfl | rfl | hk | hk | hk
  · rw [hB.head] at h
    injection h with h
    injection h with _ h _
    exact h1 h.symm
  · obtain ⟨es, c, hb, _⟩ := hB.map
    rw [hb] at h
    cases h
  · obtain ⟨a, ha⟩ := hB.box_of hk
    rw [ha] at h
    unfold accCells at h
    injection h with h
    injection h with _ h _
    exact h2 h.symm
  · exact own_not hB.leases h (Ne.symm h3) hk
  · exact own_not hB.entries h (Ne.symm h4) hk
theorem row_foot (hB : BookAt w p b q) {g : Nat} (h : Row w g ys) : ¬ q.Foot p g := not_foot hB h (by decide) (by decide) (by decide) (by decide)
end

set_option maxHeartbeats 1000000 in
set_option maxRecDepth 100000 in
theorem made8 (n : Nat) (hn : n ≤ 100000) (w : World) : Calls Try.prog 44 #[.int .i64 n, .int .i64 n] w fun e w' => ∃ g, e = .returned (.tuple #[.slice (some ⟨g, 0, none⟩) n n, .int .i64 0]) ∧ w.heap.size ≤ g ∧ Row w' g (List.replicate n 0) ∧ Below w.heap.size w w' := by
  have hd : decide ((0 : Int) ≤ (n : Int) ∧ (n : Int) ≤ 100000) = true := decide_eq_true (by omega)
  have hd2 : decide ((0 : Int) ≤ (n : Int) ∧ (n : Int) ≤ (n : Int)) = true := decide_eq_true (by omega)
  have hmk := makeU8 n n (Nat.le_refl _) (by omega)
  go_enter Try.func44, Try.ntmps44
  go_wp2_with (go_at_call 41; refine (withinR _ _ _ _).mono ?_; rintro e w1 ⟨rfl, m1, rfl⟩; first | rw [hd] | rw [hd2])
  go_ret2
  exact ⟨w.heap.size, rfl, Nat.le_refl _, blk_new _ _, below_alloc (pw_below_drewN (Below.refl _ _) _) _⟩

set_option maxRecDepth 100000 in
theorem newBook_bad (budget : Int) (w : World) (hb : ¬ (0 ≤ budget ∧ budget ≤ 10000000)) :
    Calls Try.prog 5 #[.int .i64 budget] w fun e w' => e = .returned (.tuple #[.pointer none, .int .i64 2]) ∧ w = w' := by
  have hd : decide (0 ≤ budget ∧ budget ≤ 10000000) = false := decide_eq_false hb
  go_enter Try.func5, Try.ntmps5
  go_wp2_with (first | (go_at_call 22; refine (Book.within _ _ _ _).mono ?_; rintro e w' ⟨rfl, rfl⟩; rw [hd]))
  go_ret2
  exact ⟨rfl, rfl⟩
set_option maxRecDepth 100000 in
theorem awakeLedger (w : World) : Calls Try.prog 4 #[] w fun e w' => e = .returned (.bool true) ∧ w = w' := by
  go_enter Try.func4, Try.ntmps4
  go_wp2_with (first | (go_at_call 5; refine (newBook_bad (-1) w (by omega)).mono ?_; rintro e w' ⟨rfl, rfl⟩))
  go_ret
  exact ⟨rfl, rfl⟩

/-- The book that has one account, number 1, which may hold all. -/
def bk0 : BookS := { (⟨10000000, 0, 0, 0, [], [], []⟩ : BookS) with accs := [] ++ [(1, ⟨10000000, 0, 0⟩)], entries := [] ++ [[.int .i64 1, .int .i64 1, .int .i64 0, .int .i64 10000000, .int .i64 0, .int .i64 0]] }
theorem bk0_OK : bk0.OK where
  b0 := by simp [bk0]
  b1 := by simp [bk0]
  t0 := by simp [bk0]
  t1 := by simp [bk0]
  accs := fun x hx => by
    simp [bk0] at hx
    subst hx
    simp
  sum := by simp [bk0]
theorem newBook_foot {B : Nat} : ∀ k, Parts.Foot (B + 1) ⟨B, [], .slice none 0 0, .slice none 0 0⟩ k → B ≤ k := fun k hk => by
  rcases hk with h | h | h | h | h
  · omega
  · exact Nat.le_of_eq h.symm
  · simp at h
  · simp [Value.ownBlock] at h
  · simp [Value.ownBlock] at h
/-- NewBook and Open, one after the other. -/
theorem opened {w w1 w2 : World} {B : Nat} {q : Parts} (hB : w.heap.size = B) (hb : Below w.heap.size w w1) (hk : Upd (Parts.Foot (B + 1) ⟨B, [], .slice none 0 0, .slice none 0 0⟩) w1 w2) (hf : ∀ k, q.Foot (B + 1) k → Parts.Foot (B + 1) ⟨B, [], .slice none 0 0, .slice none 0 0⟩ k ∨ w1.heap.size ≤ k) : Below w.heap.size w w2 ∧ ∀ k, q.Foot (B + 1) k → w.heap.size ≤ k := by
  subst hB
  exact ⟨hb.trans (hk.below hb.size newBook_foot), fun k hk => (hf k hk).elim (newBook_foot k) (fun h => Nat.le_trans hb.size h)⟩

end Go.Proofs.Yticbjaclnneaoaa.Arena
