/- Policies: what CheckPolicy and the references' PolicyError and PolicyFault answer. -/
import Derived.Test.YtnikkejfpnnmcaaDoorProg
import Derived.Test.YtnikkejfpnnmcaaDoorWWords
import Derived.Test.YtnikkejfpnnmcaaDoorWLast
import Derived.Test.YtnikkejfpnnmcaaDoorWMore
import Derived.WalkKit
import Derived.KernelRfl
import Derived.RowKit3
import Derived.Lib.Hide
namespace Go.Proofs.YtnikkejfpnnmcaaDoor.Policy
open Go.RowKit Go.Proofs.YtnikkejfpnnmcaaDoorW.PrintWords Go.Proofs.YtnikkejfpnnmcaaDoorW.PrintLast Go.Proofs.YtnikkejfpnnmcaaDoorW.PrintMore

/-- The error of a policy. -/
def fault (k s m : Int) : Int := if k < 1 ∨ k > 5 then 10 else if (k = 2 ∧ (s < 1 ∨ s > 100000)) ∨ (k ≠ 2 ∧ s ≠ 0) ∨ m < 0 ∨ m > 100000 then 2 else 0

theorem fault_right {k s m : Int} (h : fault k s m = 0) : 1 ≤ k ∧ k ≤ 5 ∧ (k = 2 → 1 ≤ s ∧ s ≤ 100000) ∧ (k ≠ 2 → s = 0) ∧ 0 ≤ m ∧ m ≤ 100000 := by
  unfold fault at h
  split at h
  · omega
  · split at h <;> omega

set_option maxRecDepth 100000 in
theorem withinRoom (a lo hi : Int) (w : World) : Calls Tryd.prog 21 #[.int .i64 a, .int .i64 lo, .int .i64 hi] w fun e w' => e = .returned (.bool (decide (lo ≤ a ∧ a ≤ hi))) ∧ w = w' := by
  by_cases h1 : lo ≤ a
  · by_cases h2 : a ≤ hi
    · go_enter Tryd.func21, Tryd.ntmps21
      go_wp2
      go_ret
      exact ⟨by simp [h1, h2], rfl⟩
    · go_enter Tryd.func21, Tryd.ntmps21
      go_wp2
      go_ret
      exact ⟨by simp [h2], rfl⟩
  · have h1 : a < lo := by omega
    go_enter Tryd.func21, Tryd.ntmps21
    go_wp2
    go_ret
    exact ⟨by simp; omega, rfl⟩

set_option maxHeartbeats 2000000 in
set_option maxRecDepth 100000 in
theorem checkPolicy (k s m : Int) (w : World) : Calls Tryd.prog 9 #[.agg #[.int .i64 k, .int .i64 s, .int .i64 m]] w fun e w' => e = .returned (.int .i64 (fault k s m)) ∧ Below w.heap.size w w' := by
  by_cases h1 : 1 ≤ k ∧ k ≤ 5
  · have d1 : decide (1 ≤ k ∧ k ≤ 5) = true := decide_eq_true h1
    by_cases h2 : k = 2
    · subst h2
      by_cases h3 : 1 ≤ s ∧ s ≤ 100000
      · have d3 : decide (1 ≤ s ∧ s ≤ 100000) = true := decide_eq_true h3
        by_cases h4 : 0 ≤ m ∧ m ≤ 100000
        · have d4 : decide (0 ≤ m ∧ m ≤ 100000) = true := decide_eq_true h4
          have hf : fault 2 s m = 0 := by unfold fault; rw [if_neg (by omega), if_neg (by omega)]
          rw [hf]
          clear hf
          go_enter Tryd.func9, Tryd.ntmps9
          go_wp2_with (first | (go_at_call 21; refine (withinRoom _ _ _ _).mono ?_; rintro e w' ⟨rfl, rfl⟩))
          go_ret
          exact ⟨rfl, below_alloc (Below.refl _ _) _⟩
        · have d4 : decide (0 ≤ m ∧ m ≤ 100000) = false := decide_eq_false h4
          have hf : fault 2 s m = 2 := by unfold fault; rw [if_neg (by omega), if_pos (by omega)]
          rw [hf]
          clear hf
          go_enter Tryd.func9, Tryd.ntmps9
          go_wp2_with (first | (go_at_call 21; refine (withinRoom _ _ _ _).mono ?_; rintro e w' ⟨rfl, rfl⟩))
          go_ret
          exact ⟨rfl, below_alloc (Below.refl _ _) _⟩
      · have d3 : decide (1 ≤ s ∧ s ≤ 100000) = false := decide_eq_false h3
        have hf : fault 2 s m = 2 := by unfold fault; rw [if_neg (by omega), if_pos (by omega)]
        rw [hf]
        clear hf
        go_enter Tryd.func9, Tryd.ntmps9
        go_wp2_with (first | (go_at_call 21; refine (withinRoom _ _ _ _).mono ?_; rintro e w' ⟨rfl, rfl⟩))
        go_ret
        exact ⟨rfl, below_alloc (Below.refl _ _) _⟩
    · have e2 : (k == 2) = false := beq_eq_false_iff_ne.2 h2
      have n2 : (k != 2) = true := bne_iff_ne.2 h2
      by_cases h3 : s = 0
      · subst h3
        by_cases h4 : 0 ≤ m ∧ m ≤ 100000
        · have d4 : decide (0 ≤ m ∧ m ≤ 100000) = true := decide_eq_true h4
          have hf : fault k 0 m = 0 := by unfold fault; rw [if_neg (by omega), if_neg (by omega)]
          rw [hf]
          clear hf
          go_enter Tryd.func9, Tryd.ntmps9
          go_wp2_with (first | (go_at_call 21; refine (withinRoom _ _ _ _).mono ?_; rintro e w' ⟨rfl, rfl⟩))
          go_ret
          exact ⟨rfl, below_alloc (Below.refl _ _) _⟩
        · have d4 : decide (0 ≤ m ∧ m ≤ 100000) = false := decide_eq_false h4
          have hf : fault k 0 m = 2 := by unfold fault; rw [if_neg (by omega), if_pos (by omega)]
          rw [hf]
          clear hf
          go_enter Tryd.func9, Tryd.ntmps9
          go_wp2_with (first | (go_at_call 21; refine (withinRoom _ _ _ _).mono ?_; rintro e w' ⟨rfl, rfl⟩))
          go_ret
          exact ⟨rfl, below_alloc (Below.refl _ _) _⟩
      · have n3 : (s != 0) = true := bne_iff_ne.2 h3
        have hf : fault k s m = 2 := by unfold fault; rw [if_neg (by omega), if_pos (by omega)]
        rw [hf]
        clear hf
        go_enter Tryd.func9, Tryd.ntmps9
        go_wp2_with (first | (go_at_call 21; refine (withinRoom _ _ _ _).mono ?_; rintro e w' ⟨rfl, rfl⟩))
        go_ret
        exact ⟨rfl, below_alloc (Below.refl _ _) _⟩
  · have d1 : decide (1 ≤ k ∧ k ≤ 5) = false := decide_eq_false h1
    have hf : fault k s m = 10 := by unfold fault; rw [if_pos (by omega)]
    rw [hf]
    clear hf
    go_enter Tryd.func9, Tryd.ntmps9
    go_wp2_with (first | (go_at_call 21; refine (withinRoom _ _ _ _).mono ?_; rintro e w' ⟨rfl, rfl⟩))
    go_ret
    exact ⟨rfl, below_alloc (Below.refl _ _) _⟩
end Go.Proofs.YtnikkejfpnnmcaaDoor.Policy
