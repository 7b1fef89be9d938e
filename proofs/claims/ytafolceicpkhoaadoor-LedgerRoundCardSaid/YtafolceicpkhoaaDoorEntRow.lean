/- Slices of entries in memory; within, inBudget, numbersOf. -/
import Derived.Test.YtafolceicpkhoaaDoorBuilderK
import Derived.Deep.QuietTactic
namespace Go.Proofs.YtafolceicpkhoaaDoor.Pol
set_option linter.unusedVariables false
set_option linter.unusedSimpArgs false
open Go.RowKit Go.Proofs.YtafolceicpkhoaaDoorW.PrintWords Go.Proofs.YtafolceicpkhoaaDoorW.PrintLast Go.Proofs.YtafolceicpkhoaaDoorW.PrintMore Go.Proofs.YtafolceicpkhoaaDoor.Bld

def Ent.vals (x : Ent) : List Value := [.int .i64 x.k, .int .i64 x.o, .int .i64 x.t, .int .i64 x.a, .int .i64 x.l, .int .i64 x.u]
def entK : Kd Ent where
  sz := 6
  E := []
  K _ x cs := cs = x.vals
  M _ _ _ x cs := cs = x.vals
  K_len := by rintro w x cs rfl; rfl
  K_one := by
    rintro w x cs rfl u hu
    simp only [Ent.vals, List.mem_cons, List.mem_nil_iff, or_false] at hu
    rcases hu with rfl | rfl | rfl | rfl | rfl | rfl <;> rfl
  K_below := fun _ h => h
  K_of_M := fun h => h
  M_mono := fun _ h => h
  M_bound := fun h => h
  M_move := fun _ h => h
  M_lower := fun _ h => h
theorem entAt {w : World} {A : Option Addr} {n : Nat} {xs : List Ent} (h : Kd.C entK w A n xs) (k : Nat) (x : Ent) (hx : xs[k]? = some x) : ∃ ad, A = some ad ∧ w.cell? (ad.add (k * 6)) = some (.int .i64 x.k) ∧ ∀ i v, x.vals[i]? = some v → w.cell? ⟨(ad.add (k * 6)).block, (ad.add (k * 6)).off + i, none⟩ = some v := by
  have hk : k < xs.length := (List.getElem?_eq_some_iff.1 hx).1
  obtain ⟨ad, e, hc⟩ := h.2.2 (by have := h.1; omega)
  obtain ⟨c, _, hK, hcell⟩ := hc k x hx
  have hK' : c = x.vals := hK
  subst hK'
  have h6 : ∀ i v, x.vals[i]? = some v → w.cell? (ad.add (k * 6 + i)) = some v := hcell
  obtain ⟨b, o, sp⟩ := ad
  have hsp : k * 6 + 1 ≠ 0 := by omega
  refine ⟨_, e, h6 0 _ rfl, fun i v hv => ?_⟩
  by_cases hi : k * 6 + i = 0
  · have h0 := h6 i v hv
    have hk0 : k * 6 = 0 := by omega
    have hi0 : i = 0 := by omega
    rw [hk0, hi0] at h0 ⊢
    have hs := World.cell?_spot h0
    unfold Addr.add at h0 hs ⊢
    simp at h0 hs ⊢
    subst hs
    exact h0
  · have h0 := h6 i v hv
    have e2 : (⟨b, o, sp⟩ : Addr).add (k * 6 + i) = ⟨b, o + (k * 6 + i), none⟩ := by unfold Addr.add; rw [if_neg hi]
    rw [e2] at h0
    have e3 : ((⟨b, o, sp⟩ : Addr).add (k * 6)).block = b ∧ ((⟨b, o, sp⟩ : Addr).add (k * 6)).off = o + k * 6 := by
      unfold Addr.add
      split
      · rename_i hz; rw [hz]; exact ⟨rfl, rfl⟩
      · exact ⟨rfl, rfl⟩
    rw [e3.1, e3.2, Nat.add_assoc]; exact h0

set_option maxHeartbeats 1000000 in
theorem within (n lo hi : Int) (w : World) : Calls Tryd.prog 11 #[.int .i64 n, .int .i64 lo, .int .i64 hi] w fun e w' => e = .returned (.bool (decide (lo ≤ n ∧ n ≤ hi))) ∧ w = w' := by
  by_cases h1 : lo ≤ n
  · by_cases h2 : n ≤ hi
    · rw [decide_eq_true ⟨h1, h2⟩]
      go_enter Tryd.func11, Tryd.ntmps11
      go_wp2
      go_ret
      exact ⟨by simp [h1, h2], rfl⟩
    · rw [decide_eq_false (fun h => h2 h.2)]
      have h2' : decide (n ≤ hi) = false := decide_eq_false h2
      go_enter Tryd.func11, Tryd.ntmps11
      go_wp2
      go_ret
      exact ⟨by first | rfl | simp [h1, h2'], rfl⟩
  · rw [decide_eq_false (fun h => h1 h.1)]
    have h1' : decide (lo ≤ n) = false := decide_eq_false h1
    go_enter Tryd.func11, Tryd.ntmps11
    go_wp2
    go_ret
    exact ⟨by first | rfl | simp [h1'], rfl⟩
set_option maxHeartbeats 1000000 in
theorem inBudget (n : Int) (w : World) : Calls Tryd.prog 39 #[.int .i64 n] w fun e w' => e = .returned (.bool (decide (0 ≤ n ∧ n ≤ 10000000))) ∧ w = w' := by
  by_cases h1 : 0 ≤ n
  · by_cases h2 : n ≤ 10000000
    · rw [decide_eq_true ⟨h1, h2⟩]
      go_enter Tryd.func39, Tryd.ntmps39
      go_wp2
      go_ret
      exact ⟨by first | rfl | simp [h1, h2], rfl⟩
    · rw [decide_eq_false (fun h => h2 h.2)]
      have h2' : decide (n ≤ 10000000) = false := decide_eq_false h2
      go_enter Tryd.func39, Tryd.ntmps39
      go_wp2
      go_ret
      exact ⟨by first | rfl | simp [h1, h2'], rfl⟩
  · rw [decide_eq_false (fun h => h1 h.1)]
    have h1' : decide (0 ≤ n) = false := decide_eq_false h1
    go_enter Tryd.func39, Tryd.ntmps39
    go_wp2
    go_ret
    exact ⟨by first | rfl | simp [h1'], rfl⟩

set_option maxHeartbeats 2000000 in
theorem numbersOf (k o t a l u : Int) (w : World) : Calls Tryd.prog 14 #[.agg #[.int .i64 k, .int .i64 o, .int .i64 t, .int .i64 a, .int .i64 l, .int .i64 u]] w fun e w' => ∃ g, e = .returned (.slice (some ⟨g, 0, none⟩) 5 5) ∧ w.heap.size ≤ g ∧ w'.heap[g]? = some (.cells (([o, t, a, l, u] : List Int).map (Value.int .i64)).toArray 3 (0, 0)) ∧ Below w.heap.size w w' := by
  go_enter Tryd.func14, Tryd.ntmps14
  go_wp2
  go_ret
  refine ⟨_, rfl, ?_, ?_, ?_⟩
  · simp
  · have := blk_new (w.alloc (.cells #[.int .i64 k, .int .i64 o, .int .i64 t, .int .i64 a, .int .i64 l, .int .i64 u] 31)) (.cells #[.int .i64 o, .int .i64 t, .int .i64 a, .int .i64 l, .int .i64 u] 3)
    simpa using this
  · exact below_alloc (below_alloc (Below.refl _ _) _) _
end Go.Proofs.YtafolceicpkhoaaDoor.Pol
