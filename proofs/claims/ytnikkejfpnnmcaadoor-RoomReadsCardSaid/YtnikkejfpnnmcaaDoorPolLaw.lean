/- RoomPolicies: CheckPolicy and PolicyText are what is specified. -/
import Derived.Test.YtnikkejfpnnmcaaDoorPolText
namespace Go.Proofs.YtnikkejfpnnmcaaDoor.Pol
set_option linter.unusedVariables false
open Go.RowKit Go.Proofs.YtnikkejfpnnmcaaDoorW.PrintWords Go.Proofs.YtnikkejfpnnmcaaDoorW.PrintLast Go.Proofs.YtnikkejfpnnmcaaDoorW.PrintMore Go.Proofs.YtnikkejfpnnmcaaDoor.Policy
set_option linter.unusedSimpArgs false

theorem policyText (k s m : Int) (w : World) (hT : Tabs w) : Calls Tryd.prog 7 #[.agg #[.int .i64 k, .int .i64 s, .int .i64 m]] w fun e w' => e = .returned (.tuple #[.string (polS k s m), .int .i64 (fault k s m)]) ∧ Below w.heap.size w w' := by
  by_cases hf : fault k s m = 0
  · obtain ⟨h1, h5, _⟩ := fault_right hf
    obtain ⟨j, hj, hk⟩ := num_ok h1 h5
    unfold polS
    rw [if_pos hf, hf, hj]
    exact policyText_ok k j hk s m w hf hT
  · unfold polS
    rw [if_neg hf]
    exact policyText_bad k s m w hf
theorem policyString (k s m : Int) (w : World) (hT : Tabs w) (hW : Words w) : Calls Tryd.prog 8 #[.agg #[.int .i64 k, .int .i64 s, .int .i64 m]] w fun e w' => e = .returned (.tuple #[.string (polS k s m), .int .i64 (fault k s m)]) ∧ Below w.heap.size w w' := by
  by_cases hf : fault k s m = 0
  · obtain ⟨h1, h5, _⟩ := fault_right hf
    obtain ⟨j, hj, hk⟩ := num_ok h1 h5
    unfold polS
    rw [if_pos hf, hf, hj]
    exact policyString_ok k j hk s m w hf hT hW
  · unfold polS
    rw [if_neg hf]
    exact policyString_bad k s m w hf

theorem keepAll {w u u' : World} {B : Nat} {a b c : Value} (hb : Below u.heap.size u u') (h : u.cell? ⟨B, 0, none⟩ = some a ∧ u.cell? ⟨B, 1, none⟩ = some b ∧ u.cell? ⟨B, 2, none⟩ = some c ∧ Aside0 (Below w.heap.size w u)) : u'.cell? ⟨B, 0, none⟩ = some a ∧ u'.cell? ⟨B, 1, none⟩ = some b ∧ u'.cell? ⟨B, 2, none⟩ = some c ∧ Aside0 (Below w.heap.size w u') := by
  obtain ⟨h0, h1, h2, h3⟩ := h
  have hl := old_block h0
  exact ⟨(hb.cell (p := ⟨B, 0, none⟩) hl).trans h0, (hb.cell (p := ⟨B, 1, none⟩) hl).trans h1, (hb.cell (p := ⟨B, 2, none⟩) hl).trans h2, ⟨below_then h3.out h3.out.size hb⟩⟩

set_option maxHeartbeats 4000000 in
set_option maxRecDepth 100000 in
theorem roomPolicies (k s m : Int) (w : World) (hTW : Tabs w ∧ Words w) :
    Calls Tryd.prog 3 #[.agg #[.int .i64 k, .int .i64 s, .int .i64 m]] w fun e w' => e = .returned (.bool true) ∧ Below w.heap.size w w' := by
  have HT := Aside0.mk hTW.1
  have HW := Aside0.mk hTW.2
  clear hTW
  go_enter Tryd.func3, Tryd.ntmps3
  go_wp2_with fail
  refine (policyText k s m _ (HT.out.below (below_alloc (Below.refl _ _) _))).mono ?_
  rintro e w1 ⟨rfl, h1⟩
  obtain ⟨hx0, hx1, hx2⟩ := boxed h1
  have H1 := Aside0.mk (below_then (below_alloc (Below.refl _ _) _) (by simp) h1)
  have HT1 := Aside0.mk (HT.out.below H1.out)
  clear h1
  go_wp2_with fail
  refine (policyString k s m _ HT1.out (HW.out.below H1.out)).mono ?_
  rintro e w2 ⟨rfl, h2⟩
  have HK2 := keepAll (w := w) h2 ⟨hx0, hx1, hx2, H1⟩
  clear h2 hx0 hx1 hx2
  have hS2 : (fault k s m == fault k s m) = true := by simp
  generalize polS k s m = P
  generalize hF : fault k s m = F at hS2 ⊢
  have HF := Lib.hid hF
  clear hF
  go_wp2_with fail
  go_cut [2] (fun z9 wx => z9 = .bool true ∧ Aside0 (Below w.heap.size w wx))
  case first =>
    go_region_held3 (fun w' => w'.cell? ⟨w.heap.size, 0, none⟩ = some (.int .i64 k) ∧ w'.cell? ⟨w.heap.size, 1, none⟩ = some (.int .i64 s) ∧ w'.cell? ⟨w.heap.size, 2, none⟩ = some (.int .i64 m) ∧ Aside0 (Below w.heap.size w w')) (first | exact keepAll (below_drew (Below.refl _ _)) HK2 | assumption) ((first | (go_at_call 9; refine (checkPolicy _ _ _ _).mono ?_; rintro e u' ⟨rfl, hb⟩; rw [HF.out]; have hK9 := keepAll (w := w) hb (by assumption); clear hb) | (go_at_call 10; refine (policyFault _ _ _ _).mono ?_; rintro e u' ⟨rfl, hb⟩; rw [HF.out]; have hK9 := keepAll (w := w) hb (by assumption); clear hb)))
    all_goals
      go_wp2_with fail
      go_meet
      exact ⟨rfl, hK9.2.2.2⟩
  case rest =>
    obtain ⟨rfl, HB⟩ := hcut
    go_wp2_with fail
    go_ret
    exact ⟨rfl, HB.out⟩
end Go.Proofs.YtnikkejfpnnmcaaDoor.Pol
