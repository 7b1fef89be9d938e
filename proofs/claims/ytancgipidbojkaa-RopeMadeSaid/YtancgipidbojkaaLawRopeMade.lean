/- NewRope returns what is specified, with the specified errors, for all owners, policies and leaves. No condition. -/
import Derived.Test.YtancgipidbojkaaRows
import Derived.Test.YtancgipidbojkaaMadeRope
import Derived.WalkKit
import Derived.ProofKit
import Derived.OpenShut
import Derived.ShutString
import Derived.ChangeOld
import Derived.Below
import Derived.SizedLaws
import Derived.Lib.SmallJoins
import Derived.Test.YtancgipidbojkaaWSized
namespace Go.Proofs.Ytancgipidbojkaa.ropeMade
open Go.ChangeShapes Go.WideShapes Go.ChangeAt Go.RowKit Go.Joins Go.Proofs.YtancgipidbojkaaW
open Go.ChangeMaps (open_string shut_string)
set_option linter.unusedVariables false
theorem own : ownKnob Try.prog.godebug = none := by kernel_rfl
theorem cellsP : Try.prog.cellsOf 48 = 3 := by kernel_rfl
set_option maxRecDepth 100000 in
theorem lifted (os : Os) (started : os.Started) (H : Type) (enc : TypeId × Value → H) :
    ReturnsInHanded {} Try.checked os 9 .any (Rows.ropeMadeSpec.pre6 enc Try.prog Try.f9 Rows.ropeMadeRow.domain false) (Rows.ropeMadeSpec.post enc Try.prog Try.f9 false true false false) := by
  refine returnsInHanded_of_change_sized (C := Try.checked) own started (by kernel_rfl) Try.func9
    (ChangeSpec.witness6 (enc := enc) (C := Try.checked) false ⟨#[], #[.int .i64 0, .agg #[.int .i64 0, .int .i64 0, .int .i64 0], .int .i64 0], []⟩ 8 (by kernel_rfl) (by kernel_rfl) (by kernel_rfl) (by kernel_rfl)) ?_
  intro W base args ds gs before hval0 hW hcnd hsz0 _
  have hsz : (DataW.weightsEach Try.prog (Try.f9.params.toList ++ Rows.ropeMadeSpec.plain.varTypes Try.prog) (ds ++ gs)).all (· ≤ reachBytes) = true := hsz0
  have hval : ∀ (j : Nat) t v, Try.f9.params[j]? = some t → args[j]? = some v → Value.okWide Try.prog W .any base t v := hval0
  have hW' := hW
  obtain ⟨p, q, hA0, hV, rfl, hfz, hnd⟩ := hW
  have hA : DataW.TrodAll enc Try.prog W 0 (fun _ => true) true Try.f9.params.toList args.toList ds p := hA0
  rw [Try.params9] at hA hval hsz
  obtain ⟨v0, vs0, d0, ds0, p0, q0, hargs, rfl, rfl, h0, r0⟩ := trodAll_cons hA
  obtain ⟨v1, vs1, d1, ds1, p1, q1, rfl, rfl, rfl, h1, r1⟩ := trodAll_cons r0
  obtain ⟨v2, vs2, d2, ds2, p2, q2, rfl, rfl, rfl, h2, r2⟩ := trodAll_cons r1
  obtain ⟨rfl, rfl, rfl⟩ := trodAll_nil r2
  obtain rfl : args = #[v0, v1, v2] := by cases args; simp_all
  obtain ⟨rfl, rfl⟩ := trodVars_none hV
  obtain ⟨a0, rfl, rfl, rfl, w0⟩ := open_int Try.underlying3 (hval 0 3 v0 rfl rfl) h0
  obtain ⟨b10, b11, b12, z10, z11, z12, m1, rfl, rfl, rfl, hz10, hz11, hz12⟩ := open_agg3 Try.underlying48 (by kernel_rfl) cellsP (hval 1 48 v1 rfl rfl) h1
  obtain ⟨a1_0, e10, rfl, w10⟩ := DataW.trod_int Try.underlying3 hz10
  obtain ⟨a1_1, e11, rfl, w11⟩ := DataW.trod_int Try.underlying3 hz11
  obtain ⟨a1_2, e12, rfl, w12⟩ := DataW.trod_int Try.underlying3 hz12
  simp at e10 e11 e12
  subst e10 e11 e12
  obtain ⟨a2, rfl, rfl, rfl, w2⟩ := open_int Try.underlying3 (hval 2 3 v2 rfl rfl) h2
  clear hA0 hval0 hsz0 hsz
  refine (Made.ropeMade a0 a1_0 a1_1 a1_2 a2 W w0 w10 w11 w12 w2).mono fun e W' ⟨he, bel⟩ => ?_
  subst he
  have sr1 : ∀ sp : Nat → Bool, DataW.Trod enc Try.prog W' 0 sp true 48 (.agg #[.int .i64 a1_0, .int .i64 a1_1, .int .i64 a1_2]) (.agg [.lit (.int .i64 a1_0), .lit (.int .i64 a1_1), .lit (.int .i64 a1_2)]) [] :=
    fun sp => shut_agg3 (y0 := (.lit (.int .i64 a1_0), [])) (y1 := (.lit (.int .i64 a1_1), [])) (y2 := (.lit (.int .i64 a1_2), [])) Try.underlying48 (by kernel_rfl) cellsP ⟨1, by simp [DataW.trod, Try.underlying3, w10]⟩ ⟨1, by simp [DataW.trod, Try.underlying3, w11]⟩ ⟨1, by simp [DataW.trod, Try.underlying3, w12]⟩
  exact ⟨_, rfl, _, _, _, [], _, [], hW', trodAll_mk1 (shut_bool Try.underlying4 _), (trodAll_cons_mk (shut_int Try.underlying3 w0) (trodAll_cons_mk (sr1 _) (trodAll_cons_mk (shut_int Try.underlying3 w2) trodAll_mk0))), rfl, bel.frame _, fun h => by cases h⟩
theorem over : Rows.ropeMadeRow.holds Try.pinned (OpenSpec.ofChange Rows.ropeMadeSpec) :=
  OpenClaim.holds_of_wide 9 Try.f9 rfl rfl rfl rfl rfl rfl rfl ⟨rfl, rfl, rfl, rfl, rfl⟩ rfl rfl rfl rfl rfl (by kernel_rfl) Try.func9 (by kernel_rfl)
    (of_decide_eq_true (by kernel_rfl)) (by unfold Func.isWrapper; first | (rw [if_pos (by decide +kernel)]; kernel_rfl) | (rw [if_neg (by decide +kernel)]; exact ⟨rfl, rfl⟩))
    (fun os started H enc _ => lifted os started H enc)
theorem proved : Rows.RopeMadeSaid := over
#print axioms proved
end Go.Proofs.Ytancgipidbojkaa.ropeMade
namespace Go.Proofs.Ytancgipidbojkaa
theorem ropeMade_holds : Rows.RopeMadeSaid := ropeMade.proved
end Go.Proofs.Ytancgipidbojkaa
