/- Policies: what the references' PolicyError and PolicyFault answer. -/
import Derived.Test.YtnikkejfpnnmcaaDoorPolicy
namespace Go.Proofs.YtnikkejfpnnmcaaDoor.Policy
open Go.RowKit Go.Proofs.YtnikkejfpnnmcaaDoorW.PrintWords Go.Proofs.YtnikkejfpnnmcaaDoorW.PrintLast Go.Proofs.YtnikkejfpnnmcaaDoorW.PrintMore

set_option maxHeartbeats 2000000 in
set_option maxRecDepth 100000 in
theorem policyFault (k s m : Int) (w : World) : Calls Tryd.prog 10 #[.agg #[.int .i64 k, .int .i64 s, .int .i64 m]] w fun e w' => e = .returned (.int .i64 (fault k s m)) ∧ Below w.heap.size w w' := by
  by_cases h1 : k < 1
  · have h1' : decide (k < 1) = true := decide_eq_true h1
    have hf : fault k s m = 10 := by unfold fault; rw [if_pos (by omega)]
    rw [hf]
    clear hf
    go_enter Tryd.func10, Tryd.ntmps10
    go_wp2
    go_ret
    exact ⟨rfl, below_alloc (Below.refl _ _) _⟩
  have h1' : 1 ≤ k := by omega
  by_cases h2 : 5 < k
  · have h2' : decide (5 < k) = true := decide_eq_true h2
    have hf : fault k s m = 10 := by unfold fault; rw [if_pos (by omega)]
    rw [hf]
    clear hf
    go_enter Tryd.func10, Tryd.ntmps10
    go_wp2
    go_ret
    exact ⟨rfl, below_alloc (Below.refl _ _) _⟩
  have h2' : k ≤ 5 := by omega
  by_cases h3 : k = 2
  · subst h3
    by_cases h4 : s < 1
    · have h4' : decide (s < 1) = true := decide_eq_true h4
      have hf : fault 2 s m = 2 := by unfold fault; rw [if_neg (by omega), if_pos (by omega)]
      rw [hf]
      clear hf
      go_enter Tryd.func10, Tryd.ntmps10
      go_wp2
      go_ret
      exact ⟨rfl, below_alloc (Below.refl _ _) _⟩
    have h4' : 1 ≤ s := by omega
    by_cases h5 : 100000 < s
    · have h5' : decide (100000 < s) = true := decide_eq_true h5
      have hf : fault 2 s m = 2 := by unfold fault; rw [if_neg (by omega), if_pos (by omega)]
      rw [hf]
      clear hf
      go_enter Tryd.func10, Tryd.ntmps10
      go_wp2
      go_ret
      exact ⟨rfl, below_alloc (Below.refl _ _) _⟩
    have h5' : s ≤ 100000 := by omega
    by_cases h6 : m < 0
    · have h6' : decide (m < 0) = true := decide_eq_true h6
      have hf : fault 2 s m = 2 := by unfold fault; rw [if_neg (by omega), if_pos (by omega)]
      rw [hf]
      clear hf
      go_enter Tryd.func10, Tryd.ntmps10
      go_wp2
      go_ret
      exact ⟨rfl, below_alloc (Below.refl _ _) _⟩
    have h6' : 0 ≤ m := by omega
    by_cases h7 : 100000 < m
    · have h7' : decide (100000 < m) = true := decide_eq_true h7
      have hf : fault 2 s m = 2 := by unfold fault; rw [if_neg (by omega), if_pos (by omega)]
      rw [hf]
      clear hf
      go_enter Tryd.func10, Tryd.ntmps10
      go_wp2
      go_ret
      exact ⟨rfl, below_alloc (Below.refl _ _) _⟩
    have h7' : m ≤ 100000 := by omega
    have hf : fault 2 s m = 0 := by unfold fault; rw [if_neg (by omega), if_neg (by omega)]
    rw [hf]
    clear hf
    go_enter Tryd.func10, Tryd.ntmps10
    go_wp2
    go_ret
    exact ⟨rfl, below_alloc (Below.refl _ _) _⟩
  · have e3 : (k == 2) = false := beq_eq_false_iff_ne.2 h3
    have n3 : (k != 2) = true := bne_iff_ne.2 h3
    by_cases h4 : s = 0
    · subst h4
      by_cases h6 : m < 0
      · have h6' : decide (m < 0) = true := decide_eq_true h6
        have hf : fault k 0 m = 2 := by unfold fault; rw [if_neg (by omega), if_pos (by omega)]
        rw [hf]
        clear hf
        go_enter Tryd.func10, Tryd.ntmps10
        go_wp2
        go_ret
        exact ⟨rfl, below_alloc (Below.refl _ _) _⟩
      have h6' : 0 ≤ m := by omega
      by_cases h7 : 100000 < m
      · have h7' : decide (100000 < m) = true := decide_eq_true h7
        have hf : fault k 0 m = 2 := by unfold fault; rw [if_neg (by omega), if_pos (by omega)]
        rw [hf]
        clear hf
        go_enter Tryd.func10, Tryd.ntmps10
        go_wp2
        go_ret
        exact ⟨rfl, below_alloc (Below.refl _ _) _⟩
      have h7' : m ≤ 100000 := by omega
      have hf : fault k 0 m = 0 := by unfold fault; rw [if_neg (by omega), if_neg (by omega)]
      rw [hf]
      clear hf
      go_enter Tryd.func10, Tryd.ntmps10
      go_wp2
      go_ret
      exact ⟨rfl, below_alloc (Below.refl _ _) _⟩
    · have n4 : (s != 0) = true := bne_iff_ne.2 h4
      have hf : fault k s m = 2 := by unfold fault; rw [if_neg (by omega), if_pos (by omega)]
      rw [hf]
      clear hf
      go_enter Tryd.func10, Tryd.ntmps10
      go_wp2
      go_ret
      exact ⟨rfl, below_alloc (Below.refl _ _) _⟩
end Go.Proofs.YtnikkejfpnnmcaaDoor.Policy
