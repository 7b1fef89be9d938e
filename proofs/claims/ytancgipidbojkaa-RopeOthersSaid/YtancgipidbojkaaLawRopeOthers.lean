/- Ropes of another book, policy or leaf do not join, and ropes of the same do; for all policies and leaves. No condition. -/
import Derived.Test.YtancgipidbojkaaRows
import Derived.Test.YtancgipidbojkaaRopeOthers
import Derived.WalkKit
import Derived.ProofKit
import Derived.OpenShut
import Derived.ShutString
import Derived.ChangeOld
import Derived.Below
import Derived.SizedLaws
import Derived.Lib.SmallJoins
import Derived.Test.YtancgipidbojkaaWSized
namespace Go.Proofs.Ytancgipidbojkaa.ropeOthers
open Go.ChangeShapes Go.WideShapes Go.ChangeAt Go.RowKit Go.Joins Go.Proofs.YtancgipidbojkaaW
open Go.ChangeMaps (open_string shut_string)
set_option linter.unusedVariables false
theorem own : ownKnob Try.prog.godebug = none := by kernel_rfl
theorem cellsP : Try.prog.cellsOf 48 = 3 := by kernel_rfl
set_option maxRecDepth 100000 in
theorem lifted (os : Os) (started : os.Started) (H : Type) (enc : TypeId × Value → H) :
    ReturnsInHanded {} Try.checked os 14 .any (Rows.ropeOthersSpec.pre6 enc Try.prog Try.f14 Rows.ropeOthersRow.domain false) (Rows.ropeOthersSpec.post enc Try.prog Try.f14 false true false false) := by
  refine returnsInHanded_of_change_sized (C := Try.checked) own started (by kernel_rfl) Try.func14
    (ChangeSpec.witness6 (enc := enc) (C := Try.checked) false ⟨#[], #[.agg #[.int .i64 0, .int .i64 0, .int .i64 0], .int .i64 0, .agg #[.int .i64 0, .int .i64 0, .int .i64 0], .int .i64 0], []⟩ 8 (by kernel_rfl) (by kernel_rfl) (by kernel_rfl) (by kernel_rfl)) ?_
  intro W base args ds gs before hval0 hW hcnd hsz0 _
  have hsz : (DataW.weightsEach Try.prog (Try.f14.params.toList ++ Rows.ropeOthersSpec.plain.varTypes Try.prog) (ds ++ gs)).all (· ≤ reachBytes) = true := hsz0
  have hval : ∀ (j : Nat) t v, Try.f14.params[j]? = some t → args[j]? = some v → Value.okWide Try.prog W .any base t v := hval0
  have hW' := hW
  obtain ⟨p, q, hA0, hV, rfl, hfz, hnd⟩ := hW
  have hA : DataW.TrodAll enc Try.prog W 0 (fun _ => true) true Try.f14.params.toList args.toList ds p := hA0
  rw [Try.params14] at hA hval hsz
  obtain ⟨v0, vs0, d0, ds0, p0, q0, hargs, rfl, rfl, h0, r0⟩ := trodAll_cons hA
  obtain ⟨v1, vs1, d1, ds1, p1, q1, rfl, rfl, rfl, h1, r1⟩ := trodAll_cons r0
  obtain ⟨v2, vs2, d2, ds2, p2, q2, rfl, rfl, rfl, h2, r2⟩ := trodAll_cons r1
  obtain ⟨v3, vs3, d3, ds3, p3, q3, rfl, rfl, rfl, h3, r3⟩ := trodAll_cons r2
  obtain ⟨rfl, rfl, rfl⟩ := trodAll_nil r3
  obtain rfl : args = #[v0, v1, v2, v3] := by cases args; simp_all
  obtain ⟨rfl, rfl⟩ := trodVars_none hV
  obtain ⟨b00, b01, b02, z00, z01, z02, m0, rfl, rfl, rfl, hz00, hz01, hz02⟩ := open_agg3 Try.underlying48 (by kernel_rfl) cellsP (hval 0 48 v0 rfl rfl) h0
  obtain ⟨a0_0, e00, rfl, w00⟩ := DataW.trod_int Try.underlying3 hz00
  obtain ⟨a0_1, e01, rfl, w01⟩ := DataW.trod_int Try.underlying3 hz01
  obtain ⟨a0_2, e02, rfl, w02⟩ := DataW.trod_int Try.underlying3 hz02
  simp at e00 e01 e02
  subst e00 e01 e02
  obtain ⟨a1, rfl, rfl, rfl, w1⟩ := open_int Try.underlying3 (hval 1 3 v1 rfl rfl) h1
  obtain ⟨b20, b21, b22, z20, z21, z22, m2, rfl, rfl, rfl, hz20, hz21, hz22⟩ := open_agg3 Try.underlying48 (by kernel_rfl) cellsP (hval 2 48 v2 rfl rfl) h2
  obtain ⟨a2_0, e20, rfl, w20⟩ := DataW.trod_int Try.underlying3 hz20
  obtain ⟨a2_1, e21, rfl, w21⟩ := DataW.trod_int Try.underlying3 hz21
  obtain ⟨a2_2, e22, rfl, w22⟩ := DataW.trod_int Try.underlying3 hz22
  simp at e20 e21 e22
  subst e20 e21 e22
  obtain ⟨a3, rfl, rfl, rfl, w3⟩ := open_int Try.underlying3 (hval 3 3 v3 rfl rfl) h3
  clear hA0 hval0 hsz0 hsz
  refine (RopeJoin.ropeOthers a0_0 a0_1 a0_2 a1 a2_0 a2_1 a2_2 a3 W w00 w01 w02 w1 w20 w21 w22 w3).mono fun e W' ⟨he, bel⟩ => ?_
  subst he
  have sr0 : ∀ sp : Nat → Bool, DataW.Trod enc Try.prog W' 0 sp true 48 (.agg #[.int .i64 a0_0, .int .i64 a0_1, .int .i64 a0_2]) (.agg [.lit (.int .i64 a0_0), .lit (.int .i64 a0_1), .lit (.int .i64 a0_2)]) [] :=
    fun sp => shut_agg3 (y0 := (.lit (.int .i64 a0_0), [])) (y1 := (.lit (.int .i64 a0_1), [])) (y2 := (.lit (.int .i64 a0_2), [])) Try.underlying48 (by kernel_rfl) cellsP ⟨1, by simp [DataW.trod, Try.underlying3, w00]⟩ ⟨1, by simp [DataW.trod, Try.underlying3, w01]⟩ ⟨1, by simp [DataW.trod, Try.underlying3, w02]⟩
  have sr2 : ∀ sp : Nat → Bool, DataW.Trod enc Try.prog W' 0 sp true 48 (.agg #[.int .i64 a2_0, .int .i64 a2_1, .int .i64 a2_2]) (.agg [.lit (.int .i64 a2_0), .lit (.int .i64 a2_1), .lit (.int .i64 a2_2)]) [] :=
    fun sp => shut_agg3 (y0 := (.lit (.int .i64 a2_0), [])) (y1 := (.lit (.int .i64 a2_1), [])) (y2 := (.lit (.int .i64 a2_2), [])) Try.underlying48 (by kernel_rfl) cellsP ⟨1, by simp [DataW.trod, Try.underlying3, w20]⟩ ⟨1, by simp [DataW.trod, Try.underlying3, w21]⟩ ⟨1, by simp [DataW.trod, Try.underlying3, w22]⟩
  exact ⟨_, rfl, _, _, _, [], _, [], hW', trodAll_mk1 (shut_bool Try.underlying4 _), (trodAll_cons_mk (sr0 _) (trodAll_cons_mk (shut_int Try.underlying3 w1) (trodAll_cons_mk (sr2 _) (trodAll_cons_mk (shut_int Try.underlying3 w3) trodAll_mk0)))), rfl, bel.frame _, fun h => by cases h⟩
theorem over : Rows.ropeOthersRow.holds Try.pinned (OpenSpec.ofChange Rows.ropeOthersSpec) :=
  OpenClaim.holds_of_wide 14 Try.f14 rfl rfl rfl rfl rfl rfl rfl ⟨rfl, rfl, rfl, rfl, rfl⟩ rfl rfl rfl rfl rfl (by kernel_rfl) Try.func14 (by kernel_rfl)
    (of_decide_eq_true (by kernel_rfl)) (by unfold Func.isWrapper; first | (rw [if_pos (by decide +kernel)]; kernel_rfl) | (rw [if_neg (by decide +kernel)]; exact ⟨rfl, rfl⟩))
    (fun os started H enc _ => lifted os started H enc)
theorem proved : Rows.RopeOthersSaid := over
#print axioms proved
end Go.Proofs.Ytancgipidbojkaa.ropeOthers
namespace Go.Proofs.Ytancgipidbojkaa
theorem ropeOthers_holds : Rows.RopeOthersSaid := ropeOthers.proved
end Go.Proofs.Ytancgipidbojkaa
