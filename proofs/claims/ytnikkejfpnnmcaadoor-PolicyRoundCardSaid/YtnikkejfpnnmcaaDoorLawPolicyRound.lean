/- PolicyRound: the row and its card. -/
import Derived.Test.YtnikkejfpnnmcaaDoorCard
import Derived.Test.YtnikkejfpnnmcaaDoorPolRound
namespace Go.Proofs.YtnikkejfpnnmcaaDoor.Pol
set_option linter.unusedVariables false
open Go Go.ChangeShapes Go.WideShapes Go.ChangeAt Go.RowKit Go.Joins Go.Proofs.YtnikkejfpnnmcaaDoorW.PrintWords
set_option linter.unusedSimpArgs false
abbrev laid2 : List (String × DataW Unit) := Rows.policyRoundRow.laid
theorem of_laid {W : World} (h : laidMetH Tryd.prog laid2 W) : Tabs W := by
  rw [MakeChecks.laidMetH_plain _ _ _ (by kernel_rfl)] at h
  exact tabs_of_reads (Lib.laidMet.reads h (.tail _ (.tail _ (.tail _ (.tail _ (.tail _ (.tail _ (.tail _ (.head _))))))))) (Lib.laidMet.reads h (.tail _ (.tail _ (.head _))))
theorem door_met_policyRound (os : Os) (args : Array Value) : laidMetH Tryd.prog laid2 ((World.laidAll Tryd.prog os laid2).forCall (fun _ _ => 0) ⟨#[], args, []⟩).memory := by
  rw [MakeChecks.laidMetH_plain _ _ _ (by kernel_rfl)]
  exact laidMet_laidAll _ (by kernel_rfl) (by kernel_rfl)
set_option maxRecDepth 100000 in
theorem lifted_policyRound (os : Os) (started : os.Started) (H : Type) (enc : TypeId × Value → H) :
    ReturnsInHanded {} Tryd.checked os 5 .any (fun w args => (Rows.policyRoundSpec.pre enc Tryd.prog Tryd.f5 [] false w args ∧ laidMetH Tryd.prog laid2 w) ∧ sizedMet enc Tryd.prog Tryd.f5 (OpenSpec.ofChange Rows.policyRoundSpec) false w args)
      (Rows.policyRoundSpec.post enc Tryd.prog Tryd.f5 false true false false) := by
  refine handed_open (C := Tryd.checked) own started (by kernel_rfl) Tryd.func5
    (ChangeSpec.witness_shaped (enc := enc) (C := Tryd.checked) (os := os) (X := fun w _ => laidMetH Tryd.prog laid2 w) false (World.laidAll Tryd.prog os laid2) #[.agg #[.int .i64 0, .int .i64 0, .int .i64 0]] 8 (World.laidAll_os _ _ _) (World.shaped_of_ZipB (by kernel_rfl) (by kernel_rfl)) (by kernel_rfl) (by kernel_rfl) (by kernel_rfl) (door_met_policyRound os _)) ?_
  intro W base args ds gs before hval0 hW hL hO
  have hval : ∀ (j : Nat) t v, Tryd.f5.params[j]? = some t → args[j]? = some v → Value.okWide Tryd.prog W .any base t v := hval0
  have hW' := hW
  obtain ⟨p, q, hA0, hV, rfl, hfz, hnd⟩ := hW
  have hA : DataW.TrodAll enc Tryd.prog W 0 (fun _ => true) true Tryd.f5.params.toList args.toList ds p := hA0
  rw [Tryd.params5] at hA hval
  obtain ⟨v0, vs0, d0, ds0, p0, q0, hargs, rfl, rfl, h0, r0⟩ := trodAll_cons hA
  obtain ⟨rfl, rfl, rfl⟩ := trodAll_nil r0
  obtain rfl : args = #[v0] := by cases args; simp_all
  obtain ⟨rfl, rfl⟩ := trodVars_none hV
  obtain ⟨b00, b01, b02, z00, z01, z02, m0, rfl, rfl, rfl, hz00, hz01, hz02⟩ := open_agg3 Tryd.underlying23 (by kernel_rfl) cellsP (hval 0 23 v0 rfl rfl) h0
  obtain ⟨a0_0, e00, rfl, w00⟩ := DataW.trod_int Tryd.underlying3 hz00
  obtain ⟨a0_1, e01, rfl, w01⟩ := DataW.trod_int Tryd.underlying3 hz01
  obtain ⟨a0_2, e02, rfl, w02⟩ := DataW.trod_int Tryd.underlying3 hz02
  simp at e00 e01 e02
  subst e00 e01 e02
  clear hA0 hval0
  obtain ⟨mx, hx⟩ := maxLen_of_open hO
  refine (policyRound a0_0 a0_1 a0_2 W (of_laid hL) mx hx).mono fun e W' ⟨he, bel⟩ => ?_
  subst he
  have sr0 : ∀ sp : Nat → Bool, DataW.Trod enc Tryd.prog W' 0 sp true 23 (.agg #[.int .i64 a0_0, .int .i64 a0_1, .int .i64 a0_2]) (.agg [.lit (.int .i64 a0_0), .lit (.int .i64 a0_1), .lit (.int .i64 a0_2)]) [] :=
    fun sp => shut_agg3 Tryd.underlying23 (by kernel_rfl) cellsP (y0 := (.lit (.int .i64 a0_0), [])) (y1 := (.lit (.int .i64 a0_1), [])) (y2 := (.lit (.int .i64 a0_2), [])) ⟨1, by simp [DataW.trod, Tryd.underlying3, w00]⟩ ⟨1, by simp [DataW.trod, Tryd.underlying3, w01]⟩ ⟨1, by simp [DataW.trod, Tryd.underlying3, w02]⟩
  exact ⟨_, rfl, _, _, _, [], _, [], hW', trodAll_mk1 (shut_bool Tryd.underlying4 _), (trodAll_cons_mk (sr0 _) trodAll_mk0), rfl, bel.frame _, fun h => by cases h⟩
theorem over_policyRound : Rows.policyRoundRow.holds Tryd.pinned (OpenSpec.ofChange Rows.policyRoundSpec) :=
  OpenClaim.holds_of_wide 5 Tryd.f5 rfl rfl rfl rfl rfl rfl rfl ⟨rfl, rfl, rfl, rfl, rfl⟩ rfl rfl rfl rfl rfl (by kernel_rfl) Tryd.func5 (by kernel_rfl)
    (of_decide_eq_true (by kernel_rfl)) (by unfold Func.isWrapper; first | (rw [if_pos (by decide +kernel)]; kernel_rfl) | (rw [if_neg (by decide +kernel)]; exact ⟨rfl, rfl⟩))
    (fun os started H enc _ => lifted_policyRound os started H enc)
theorem policyRound_card : Rows.PolicyRoundCardSaid :=
  Claim7.holds_tied_plain_at .later [] [.data, .data, .data, .data, .sentinel, .sentinel, .listed, .data, .pinned] true (true, "08ddf5661042af94a2664162f7f73739441d59735a4ea5ad76a459364c248d48") true
    over_policyRound (fun _ h => by cases h) (by kernel_rfl) (fun _ h => by cases h) policyRound_row_tie rfl ⟨rfl, rfl⟩ (by kernel_rfl) rfl
    (fun f fn hf hfn => by
      obtain rfl : f = 5 := Option.some.inj ((show Tryd.prog.funcNamed "corncrib/cornkeep1.PolicyRound" = some 5 by kernel_rfl).symm.trans hf) |>.symm
      obtain rfl : fn = Tryd.f5 := (Option.some.inj (Tryd.func5.symm.trans hfn)).symm
      exact ⟨by kernel_rfl, fun j t ht => by
        rw [Tryd.params5] at ht
        have hall : ∀ t ∈ ([23] : List TypeId), Tryd.prog.wantsStandIn t = false := by
          intro t ht
          simp only [List.mem_cons, List.mem_nil_iff, or_false] at ht
          rcases ht with rfl <;> kernel_rfl
        exact hall t (by simpa using Array.mem_of_getElem? ht)⟩)
    (by kernel_rfl)
#print axioms policyRound_card
end Go.Proofs.YtnikkejfpnnmcaaDoor.Pol
namespace Go.Proofs.YtnikkejfpnnmcaaDoor
theorem policyRound_holds : Rows.PolicyRoundCardSaid := Pol.policyRound_card
end Go.Proofs.YtnikkejfpnnmcaaDoor
