/- PolicyRound: what PolicyText writes ReadPolicy reads. -/
import Derived.Test.YtnikkejfpnnmcaaDoorReadOne
import Derived.Test.YtnikkejfpnnmcaaDoorReadTwo
import Derived.Test.YtnikkejfpnnmcaaDoorReadThree
namespace Go.Proofs.YtnikkejfpnnmcaaDoor.Pol
set_option linter.unusedVariables false
open Go.RowKit Go.Proofs.YtnikkejfpnnmcaaDoorW.PrintWords Go.Proofs.YtnikkejfpnnmcaaDoorW.PrintLast Go.Proofs.YtnikkejfpnnmcaaDoorW.PrintMore Go.Proofs.YtnikkejfpnnmcaaDoor.Policy
set_option linter.unusedSimpArgs false

theorem readPolicy_ok (k s m : Int) (w : World) (hf : fault k s m = 0) (hT : Tabs w) (mx : Int) (hx : w.cell? ⟨4, 0, none⟩ = some (.int .i64 mx)) :
    Calls Tryd.prog 11 #[.string (polS k s m)] w fun e w' => e = .returned (.tuple #[.agg #[.int .i64 k, .int .i64 s, .int .i64 m], .int .i64 0]) ∧ Below w.heap.size w w' := by
  obtain ⟨h1, h5, hs2, hs0, hm0, hm1⟩ := fault_right hf
  have hp : polS k s m = polT (k - 1).toNat s m := by unfold polS; rw [if_pos hf]
  rw [hp]
  rcases (by omega : k = 1 ∨ k = 2 ∨ k = 3 ∨ k = 4 ∨ k = 5) with rfl | rfl | rfl | rfl | rfl
  · obtain rfl := hs0 (by omega)
    exact readPolicy_0 0 m w ⟨hm0, hm1⟩ hf hT mx hx
  · have := hs2 rfl
    exact readPolicy_one s m w ⟨by omega, this.2⟩ ⟨hm0, hm1⟩ hf hT mx hx
  · obtain rfl := hs0 (by omega)
    exact readPolicy_2 0 m w ⟨hm0, hm1⟩ hf hT mx hx
  · obtain rfl := hs0 (by omega)
    exact readPolicy_3 0 m w ⟨hm0, hm1⟩ hf hT mx hx
  · obtain rfl := hs0 (by omega)
    exact readPolicy_4 0 m w ⟨hm0, hm1⟩ hf hT mx hx

set_option maxRecDepth 100000 in
theorem classOf_bad (w : World) : Calls Tryd.prog 26 #[.int .i64 (-1)] w fun e w' => e = .returned (.tuple #[.int .i64 0, .int .i64 2]) ∧ w = w' := by
  have hd : decide ((0 : Int) ≤ -1 ∧ (-1 : Int) ≤ 100000) = false := by decide
  go_enter Tryd.func26, Tryd.ntmps26
  go_wp2_with (go_at_call 21; refine (withinRoom _ _ _ _).mono ?_; rintro e w1 ⟨rfl, rfl⟩; rw [hd])
  go_ret2
  exact ⟨rfl, rfl⟩
set_option maxRecDepth 100000 in
theorem awakeRoom (w : World) : Calls Tryd.prog 13 #[] w fun e w' => e = .returned (.bool true) ∧ w = w' := by
  go_enter Tryd.func13, Tryd.ntmps13
  go_wp2_with (go_at_call 26; refine (classOf_bad _).mono ?_; rintro e w' ⟨rfl, rfl⟩)
  go_ret
  exact ⟨rfl, rfl⟩

set_option maxHeartbeats 4000000 in
set_option maxRecDepth 100000 in
theorem policyRound (k s m : Int) (w : World) (hT : Tabs w) (mx : Int) (hx : w.cell? ⟨4, 0, none⟩ = some (.int .i64 mx)) :
    Calls Tryd.prog 5 #[.agg #[.int .i64 k, .int .i64 s, .int .i64 m]] w fun e w' => e = .returned (.bool true) ∧ Below w.heap.size w w' := by
  have HT := Aside0.mk hT
  have HX := Aside0.mk hx
  clear hT hx
  by_cases hf : fault k s m = 0
  · have HR := Aside0.mk (fun u hTu hxu => readPolicy_ok k s m u hf hTu mx hxu)
    have HF := Lib.hid hf
    go_enter Tryd.func5, Tryd.ntmps5
    go_wp2_with fail
    refine (awakeRoom _).mono ?_
    rintro e w0 ⟨rfl, rfl⟩
    go_wp2_with fail
    refine (policyText k s m _ (HT.out.below (below_alloc (Below.refl _ _) _))).mono ?_
    rintro e w1 ⟨rfl, h1⟩
    obtain ⟨hx0, hx1, hx2⟩ := boxed h1
    have H1 := Aside0.mk (below_then (below_alloc (Below.refl _ _) _) (by simp) h1)
    rw [HF.out]
    generalize polS k s m = P at HR ⊢
    clear h1
    go_wp2_with fail
    refine (HR.out _ (HT.out.below H1.out) ((Below.cell H1.out (p := ⟨4, 0, none⟩) (old_block HX.out)).trans HX.out)).mono ?_
    rintro e w2 ⟨rfl, h2⟩
    have hb := old_block hx0
    have hy0 : (w2.alloc (.cells #[.int .i64 k, .int .i64 s, .int .i64 m] 23)).cell? ⟨w.heap.size, 0, none⟩ = some (.int .i64 k) := (Below.cell (below_then h2 h2.size (below_alloc (Below.refl _ _) _)) (p := ⟨w.heap.size, 0, none⟩) hb).trans hx0
    have hy1 : (w2.alloc (.cells #[.int .i64 k, .int .i64 s, .int .i64 m] 23)).cell? ⟨w.heap.size, 1, none⟩ = some (.int .i64 s) := (Below.cell (below_then h2 h2.size (below_alloc (Below.refl _ _) _)) (p := ⟨w.heap.size, 1, none⟩) hb).trans hx1
    have hy2 : (w2.alloc (.cells #[.int .i64 k, .int .i64 s, .int .i64 m] 23)).cell? ⟨w.heap.size, 2, none⟩ = some (.int .i64 m) := (Below.cell (below_then h2 h2.size (below_alloc (Below.refl _ _) _)) (p := ⟨w.heap.size, 2, none⟩) hb).trans hx2
    have H2 := Aside0.mk (below_then H1.out H1.out.size h2)
    clear h2 hx0 hx1 hx2
    go_wp2_with fail
    go_ret
    exact ⟨rfl, below_alloc H2.out _⟩
  · have hne : (fault k s m != 0) = true := bne_iff_ne.2 hf
    have hp : polS k s m = ByteArray.empty := by unfold polS; rw [if_neg hf]
    go_enter Tryd.func5, Tryd.ntmps5
    go_wp2_with fail
    refine (awakeRoom _).mono ?_
    rintro e w0 ⟨rfl, rfl⟩
    go_wp2_with fail
    refine (policyText k s m _ (HT.out.below (below_alloc (Below.refl _ _) _))).mono ?_
    rintro e w1 ⟨rfl, h1⟩
    have H1 := Aside0.mk (below_then (below_alloc (Below.refl _ _) _) (by simp) h1)
    rw [hp]
    clear h1
    go_wp2_with fail
    go_ret
    exact ⟨rfl, H1.out⟩
end Go.Proofs.YtnikkejfpnnmcaaDoor.Pol
