/- RoomPolicies: the row and its card. -/
import Derived.Test.YtnikkejfpnnmcaaDoorRows
import Derived.Test.YtnikkejfpnnmcaaDoorCards
import Derived.Test.YtnikkejfpnnmcaaDoorTie
import Derived.Test.YtnikkejfpnnmcaaDoorPolLaw
import Derived.ProofKit
import Derived.OpenShut
import Derived.LaidMore
import Derived.MakeChecks
import Derived.Stop.Joined
import Derived.SevenTiedAt
import Derived.ChangeOld
import Derived.Lib.SmallJoins
namespace Go.Proofs.YtnikkejfpnnmcaaDoor.Pol
set_option linter.unusedVariables false
open Go Go.ChangeShapes Go.WideShapes Go.ChangeAt Go.RowKit Go.Joins Go.Proofs.YtnikkejfpnnmcaaDoorW.PrintWords
set_option linter.unusedSimpArgs false

theorem own : ownKnob Tryd.prog.godebug = none := by kernel_rfl
abbrev laid1 : List (String × DataW Unit) := Rows.roomPoliciesRow.laid

theorem tab_of_reads {W : World} {name : String} {k : IntKind} {zs : List Int} {g : Nat} {t e : TypeId} {n : Nat}
    (hg : Tryd.prog.globalNamed name = some g) (hty : (Tryd.prog.globals[g]?).map (·.type) = some t) (ht : Tryd.prog.underlying t = some (.array n e)) (he : Tryd.prog.underlying e = some (.int k)) (hce : Tryd.prog.cellsOf e = 1) (hct : Tryd.prog.cellsOf t = n)
    (h : Lib.VarReads Tryd.prog W name (Lib.tabData k zs)) : Lib.TabIs Tryd.prog W name k zs := by
  obtain ⟨g', t', cs, fuel, p, hg', ht', hvar, hd⟩ := h
  obtain rfl := Option.some.inj (hg.symm.trans hg')
  obtain rfl := Option.some.inj (hty.symm.trans ht')
  unfold Lib.TabIs
  rw [hvar, ← Lib.cells_of_tab ht he hce hct hd]

theorem words_of_reads {W : World} (h : Lib.VarReads Tryd.prog W "corncrib/cornref1.policyWords" Rows.laid_corncrib_cornref1_policyWords) : ∃ b o c, 0 < W.heap.size ∧ W.cell? ⟨0, 0, none⟩ = some (.slice (some ⟨b, o, none⟩) 6 c) ∧ b < W.heap.size ∧ ∀ j, j < 5 → W.cell? ⟨b, o + (j + 1), none⟩ = some (.string (wd j)) := by
  obtain ⟨g, t, cs, fuel, p, hg, ht, hvar, hd⟩ := h
  obtain rfl := Option.some.inj ((show Tryd.prog.globalNamed "corncrib/cornref1.policyWords" = some 0 by kernel_rfl).symm.trans hg)
  obtain rfl := Option.some.inj ((show (Tryd.prog.globals[0]?).map (·.type) = some 39 by kernel_rfl).symm.trans ht)
  obtain ⟨a, c, hcs, _, hel⟩ := open_row Tryd.underlying39 (by kernel_rfl) hd
  have hc0 := World.var?_cell hg hvar 0
  rw [Array.eq_one_of_toList hcs] at hc0
  have one : ∀ (i : Nat) (bs : List UInt8), ([.lit (.string []), .lit (.string [101, 120, 97, 99, 116]), .lit (.string [115, 116, 101, 112, 115]), .lit (.string [104, 97, 108, 102]), .lit (.string [100, 111, 117, 98, 108, 101]), .lit (.string [115, 111, 114, 116, 101, 100])] : List (DataW Unit))[i]? = some (.lit (.string bs)) → W.cell? (a.add i) = some (.string ⟨bs.toArray⟩) := fun i bs hi => by
    obtain ⟨v, n, q, hv, htr⟩ := hel i _ hi
    obtain ⟨s, hs, hx, _⟩ := DataW.trod_string Tryd.underlying9 htr
    have e1 : v = .string s := by simpa using hs
    have e2 : s.data.toList = bs := by
      have := (Prod.mk.inj hx).1
      injection this with this
      injection this with this
      exact this.symm
    rw [hv, e1, ← e2]
  have hget : ∀ j, j < 5 → W.cell? (a.add (j + 1)) = some (.string (wd j)) := by
    intro j hj
    have : j = 0 ∨ j = 1 ∨ j = 2 ∨ j = 3 ∨ j = 4 := by omega
    rcases this with rfl | rfl | rfl | rfl | rfl
    · exact one 1 _ rfl
    · exact one 2 _ rfl
    · exact one 3 _ rfl
    · exact one 4 _ rfl
    · exact one 5 _ rfl
  obtain ⟨b, o, sp⟩ := a
  have hspot : sp = none := by
    have h1 := one 0 _ rfl
    simp only [Addr.add] at h1
    have := World.cell?_spot h1
    simpa using this
  subst hspot
  have hc0' : W.cell? ⟨0, 0, none⟩ = some (.slice (some ⟨b, o, none⟩) 6 c) := by simpa using hc0
  refine ⟨b, o, c, old_block hc0', hc0', ?_, fun j hj => ?_⟩
  · have h1 := hget 0 (by omega)
    exact old_block (o := o + 1) (by simpa [Addr.add] using h1)
  · have h1 := hget j hj
    simpa [Addr.add] using h1

theorem tabs_of_reads {W : World} (h1 : Lib.VarReads Tryd.prog W "strings.asciiSpace" Rows.laid_strings_asciiSpace) (h2 : Lib.VarReads Tryd.prog W "internal/strconv.uint64pow10" Rows.laid_internal_strconv_uint64pow10) (h3 : Lib.VarReads Tryd.prog W "corncrib/cornref1.policyWords" Rows.laid_corncrib_cornref1_policyWords) : Tabs W where
  asp := tab_of_reads gAsp (by kernel_rfl) Tryd.underlying66 Tryd.underlying5 (by kernel_rfl) (by kernel_rfl) ((show (Rows.laid_strings_asciiSpace : DataW Unit) = Lib.tabData .u8 Lib.asciiSpaceTab by kernel_rfl) ▸ h1)
  pow := tab_of_reads gPow (by kernel_rfl) Tryd.underlying132 Tryd.underlying75 (by kernel_rfl) (by kernel_rfl) ((show (Rows.laid_internal_strconv_uint64pow10 : DataW Unit) = Lib.tabData .u64 Lib.pow10Tab by kernel_rfl) ▸ h2)
  words := words_of_reads h3

theorem of_laid {W : World} (h : laidMetH Tryd.prog laid1 W) : Tabs W := by
  rw [MakeChecks.laidMetH_plain _ _ _ (by kernel_rfl)] at h
  exact tabs_of_reads (Lib.laidMet.reads h (.tail _ (.tail _ (.tail _ (.tail _ (.head _)))))) (Lib.laidMet.reads h (.tail _ (.tail _ (.head _)))) (Lib.laidMet.reads h (.tail _ (.tail _ (.tail _ (.tail _ (.tail _ (.head _)))))))

theorem cellsP : Tryd.prog.cellsOf 23 = 3 := by kernel_rfl
theorem door_met_roomPolicies (os : Os) (args : Array Value) : laidMetH Tryd.prog laid1 ((World.doorLaid Tryd.prog 3000 os).forCall (fun _ _ => 0) ⟨#[], args, []⟩).memory :=
  laidMetH_of_parts3 (fuel := 8) (laidMet_of_run' 8 (by kernel_rfl) (by kernel_rfl)) (by kernel_rfl) (by kernel_rfl)
set_option maxRecDepth 100000 in
theorem lifted_roomPolicies (os : Os) (started : os.Started) (H : Type) (enc : TypeId × Value → H) :
    ReturnsInHanded {} Tryd.checked os 3 .any (fun w args => (Rows.roomPoliciesSpec.pre enc Tryd.prog Tryd.f3 [] false w args ∧ laidMetH Tryd.prog laid1 w) ∧ sizedMet enc Tryd.prog Tryd.f3 (OpenSpec.ofChange Rows.roomPoliciesSpec) false w args)
      (Rows.roomPoliciesSpec.post enc Tryd.prog Tryd.f3 false true false false) := by
  refine returnsInHanded_of_change_and (C := Tryd.checked) (X := fun w _ => laidMetH Tryd.prog laid1 w) (fun _ _ _ hh h => h.of_heap hh) own started (by kernel_rfl) Tryd.func3
    (ChangeSpec.witness_shaped (enc := enc) (C := Tryd.checked) (os := os) (X := fun w _ => laidMetH Tryd.prog laid1 w) false (World.doorLaid Tryd.prog 3000 os) #[.agg #[.int .i64 0, .int .i64 0, .int .i64 0]] 8 rfl (World.shaped_of_RefB (by kernel_rfl) (by kernel_rfl)) (by kernel_rfl) (by kernel_rfl) (by kernel_rfl) (door_met_roomPolicies os _)) ?_
  intro W base args ds gs before hval0 hW _ hsz0 hL _
  have hval : ∀ (j : Nat) t v, Tryd.f3.params[j]? = some t → args[j]? = some v → Value.okWide Tryd.prog W .any base t v := hval0
  have hW' := hW
  obtain ⟨p, q, hA0, hV, rfl, hfz, hnd⟩ := hW
  have hA : DataW.TrodAll enc Tryd.prog W 0 (fun _ => true) true Tryd.f3.params.toList args.toList ds p := hA0
  rw [Tryd.params3] at hA hval
  obtain ⟨v0, vs0, d0, ds0, p0, q0, hargs, rfl, rfl, h0, r0⟩ := trodAll_cons hA
  obtain ⟨rfl, rfl, rfl⟩ := trodAll_nil r0
  obtain rfl : args = #[v0] := by cases args; simp_all
  obtain ⟨rfl, rfl⟩ := trodVars_none hV
  obtain ⟨b00, b01, b02, z00, z01, z02, m0, rfl, rfl, rfl, hz00, hz01, hz02⟩ := open_agg3 Tryd.underlying23 (by kernel_rfl) cellsP (hval 0 23 v0 rfl rfl) h0
  obtain ⟨a0_0, e00, rfl, w00⟩ := DataW.trod_int Tryd.underlying3 hz00
  obtain ⟨a0_1, e01, rfl, w01⟩ := DataW.trod_int Tryd.underlying3 hz01
  obtain ⟨a0_2, e02, rfl, w02⟩ := DataW.trod_int Tryd.underlying3 hz02
  simp at e00 e01 e02
  subst e00 e01 e02
  clear hA0 hval0
  refine (roomPolicies a0_0 a0_1 a0_2 W (of_laid hL)).mono fun e W' ⟨he, bel⟩ => ?_
  subst he
  have sr0 : ∀ sp : Nat → Bool, DataW.Trod enc Tryd.prog W' 0 sp true 23 (.agg #[.int .i64 a0_0, .int .i64 a0_1, .int .i64 a0_2]) (.agg [.lit (.int .i64 a0_0), .lit (.int .i64 a0_1), .lit (.int .i64 a0_2)]) [] :=
    fun sp => shut_agg3 Tryd.underlying23 (by kernel_rfl) cellsP (y0 := (.lit (.int .i64 a0_0), [])) (y1 := (.lit (.int .i64 a0_1), [])) (y2 := (.lit (.int .i64 a0_2), [])) ⟨1, by simp [DataW.trod, Tryd.underlying3, w00]⟩ ⟨1, by simp [DataW.trod, Tryd.underlying3, w01]⟩ ⟨1, by simp [DataW.trod, Tryd.underlying3, w02]⟩
  exact ⟨_, rfl, _, _, _, [], _, [], hW', trodAll_mk1 (shut_bool Tryd.underlying4 _), (trodAll_cons_mk (sr0 _) trodAll_mk0), rfl, bel.frame _, fun h => by cases h⟩
theorem over_roomPolicies : Rows.roomPoliciesRow.holds Tryd.pinned (OpenSpec.ofChange Rows.roomPoliciesSpec) :=
  OpenClaim.holds_of_wide 3 Tryd.f3 rfl rfl rfl rfl rfl rfl rfl ⟨rfl, rfl, rfl, rfl, rfl⟩ rfl rfl rfl rfl rfl (by kernel_rfl) Tryd.func3 (by kernel_rfl)
    (of_decide_eq_true (by kernel_rfl)) (by unfold Func.isWrapper; first | (rw [if_pos (by decide +kernel)]; kernel_rfl) | (rw [if_neg (by decide +kernel)]; exact ⟨rfl, rfl⟩))
    (fun os started H enc _ => lifted_roomPolicies os started H enc)
theorem roomPolicies_card : Rows.RoomPoliciesCardSaid :=
  Claim7.holds_tied_plain_at .later [] [.data, .data, .data, .listed, .data, .widerDeep] true (true, "08ddf5661042af94a2664162f7f73739441d59735a4ea5ad76a459364c248d48") true
    over_roomPolicies (fun _ h => by cases h) (by kernel_rfl) (fun _ h => by cases h) roomPolicies_row_tie rfl ⟨rfl, rfl⟩ (by kernel_rfl) rfl
    (fun f fn hf hfn => by
      obtain rfl : f = 3 := Option.some.inj ((show Tryd.prog.funcNamed "corncrib/cornlaw1.RoomPolicies" = some 3 by kernel_rfl).symm.trans hf) |>.symm
      obtain rfl : fn = Tryd.f3 := (Option.some.inj (Tryd.func3.symm.trans hfn)).symm
      exact ⟨by kernel_rfl, fun j t ht => by
        rw [Tryd.params3] at ht
        have hall : ∀ t ∈ ([23] : List TypeId), Tryd.prog.wantsStandIn t = false := by
          intro t ht
          simp only [List.mem_cons, List.mem_nil_iff, or_false] at ht
          rcases ht with rfl <;> kernel_rfl
        exact hall t (by simpa using Array.mem_of_getElem? ht)⟩)
    (by kernel_rfl)
#print axioms roomPolicies_card
end Go.Proofs.YtnikkejfpnnmcaaDoor.Pol
namespace Go.Proofs.YtnikkejfpnnmcaaDoor
theorem roomPolicies_holds : Rows.RoomPoliciesCardSaid := Pol.roomPolicies_card
end Go.Proofs.YtnikkejfpnnmcaaDoor
