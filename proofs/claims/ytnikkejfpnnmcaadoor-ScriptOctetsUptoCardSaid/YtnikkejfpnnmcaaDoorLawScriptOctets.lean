/- What Quote and Octets return is what the document's reference returns, for arguments of bulk at most 1048576: the row and its card. -/
import Derived.Test.YtnikkejfpnnmcaaDoorRows
import Derived.Test.YtnikkejfpnnmcaaDoorCards
import Derived.Test.YtnikkejfpnnmcaaDoorTie
import Derived.Test.YtnikkejfpnnmcaaDoorScriptOctets
import Derived.JoinedCond
import Derived.Deep.DeepHandedRow
import Derived.Stop.LaidErr
import Derived.ChangeSlices
import Derived.ProofKit
import Derived.OpenShut
import Derived.ShutString
import Derived.ChangeOld
import Derived.SizedLaws
import Derived.LaidMore
import Derived.MakeChecks
import Derived.Stop.Joined
import Derived.SevenTiedAt
import Derived.Lay
import Derived.Lib.LaidU8
import Derived.Lib.SmallJoins
namespace Go.Proofs.YtnikkejfpnnmcaaDoor.scriptOctetsUpto
open Go Go.ChangeShapes Go.WideShapes Go.ChangeAt Go.RowKit Go.Joins Go.Proofs.YtnikkejfpnnmcaaDoorW.PrintWords Go.Proofs.YtnikkejfpnnmcaaDoor.Quo
open Go.ChangeMaps (open_string shut_string)
set_option linter.unusedVariables false
set_option linter.unusedSimpArgs false
theorem own : ownKnob Tryd.prog.godebug = none := by kernel_rfl
theorem laidOut : laidOutB Tryd.prog = true := by kernel_rfl
abbrev laid3 : List (String × DataW Unit) := Rows.scriptOctetsUptoRow.laid
abbrev S3 : OpenSpec := Rows.OpenSpec.upto Rows.scriptOctetsSpec
theorem one_le {H : Type} (d : DataW H) : 1 ≤ Rows.uptoBulk d := by
  cases d with
  | lit l => cases l <;> simp [Rows.uptoBulk]
  | _ => simp [Rows.uptoBulk]
theorem length_le {H : Type} (l : List (DataW H)) : l.length ≤ Rows.uptoBulkAll l := by
  induction l with
  | nil => simp [Rows.uptoBulkAll]
  | cons x r ih => have := one_le x; simp only [Rows.uptoBulkAll, List.length_cons]; omega
theorem iface_of_reads {W : World} {name nm : String} {d : DataW Unit} {g : Nat} {t : TypeId} {ms : Array (String × TypeId)}
    (hg : Tryd.prog.globalNamed name = some g) (hty : (Tryd.prog.globals[g]?).map (·.type) = some t) (hi : Tryd.prog.underlying t = some (.interface ms))
    (h : Lib.VarReads Tryd.prog W name (.iface nm d)) : ∃ u v, W.cell? ⟨g, 0, none⟩ = some (.iface u v) := by
  obtain ⟨g', t', cs, fuel, p, hg', ht', hvar, hd⟩ := h
  obtain rfl := Option.some.inj (hg.symm.trans hg')
  obtain rfl := Option.some.inj (hty.symm.trans ht')
  obtain ⟨f1, u, v, hcs, hn, h1⟩ := iface_of_trod hi hd
  have hc0 := World.var?_cell hg hvar 0
  rw [Array.eq_one_of_toList hcs] at hc0
  exact ⟨u, v, by simpa using hc0⟩
theorem of_laid {W : World} (h : laidMetH Tryd.prog laid3 W) : ErrVar W := by
  rw [MakeChecks.laidMetH_plain _ _ _ (by kernel_rfl)] at h
  obtain ⟨u, v, hc⟩ := iface_of_reads (g := 5) (by kernel_rfl) (by kernel_rfl) Tryd.underlying60 (Lib.laidMet.reads h (.tail _ (.tail _ (.tail _ (.tail _ (.head _))))))
  exact ⟨_, hc, .inr ⟨u, v, rfl⟩⟩
theorem door_met (os : Os) (args : Array Value) : laidMetH Tryd.prog laid3 ((World.laidAll Tryd.prog os laid3).forCall (fun _ _ => 0) ⟨#[], args, []⟩).memory := by
  rw [MakeChecks.laidMetH_plain _ _ _ (by kernel_rfl)]
  exact laidMet_laidAll _ (by kernel_rfl) (by kernel_rfl)
abbrev zeroArgs : Array Value := #[.slice none 0 0, .string ByteArray.empty]
theorem witness_row (os : Os) {H : Type} (enc : TypeId × Value → H) :
    S3.preRow enc Tryd.prog Tryd.f6 Rows.scriptOctetsUptoRow.domain false laid3 ((World.laidAll Tryd.prog os laid3).forCall (fun _ _ => 0) ⟨#[], zeroArgs, []⟩).memory zeroArgs := by
  have hw : (DataW.whole enc Tryd.prog ((World.laidAll Tryd.prog os laid3).forCall (fun _ _ => 0) ⟨#[], zeroArgs, []⟩).memory Tryd.f6.params.toList S3.vars false zeroArgs.toList 8).map (fun x => (x.1, x.2.1)) =
      some ([.nil, .lit (.string [])], []) := by kernel_rfl
  obtain ⟨⟨x1, x2, x3⟩, hx, hx1⟩ := Option.map_eq_some_iff.1 hw
  simp only [Prod.mk.injEq] at hx1
  obtain ⟨rfl, rfl⟩ := hx1
  exact OpenSpec.preRow_of_cond 8 hx (by kernel_rfl) (fun k hk => by cases hk; rfl) (by kernel_rfl) (door_met os _)
theorem witness (os : Os) {H : Type} (enc : TypeId × Value → H) : ∃ (w : World) (tape : Tape) (i : Input), w.os = os ∧ (w.forCall tape i).Shaped Tryd.prog ∧ i.vars = [] ∧ Input.okWide Tryd.prog (w.forCall tape i) .any w.heap.size 6 i ∧
      S3.preRow enc Tryd.prog Tryd.f6 Rows.scriptOctetsUptoRow.domain false laid3 (w.forCall tape i).memory i.args ∧ ({ modest := false } : Assume).holds Tryd.prog (lone (Frame.enter Tryd.prog 6 i.args .normal) [] (w.forCall tape i)) := by
  have hok : Input.okWideB Tryd.prog ((World.laidAll Tryd.prog os laid3).forCall (fun _ _ => 0) ⟨#[], zeroArgs, []⟩) 6 ⟨#[], zeroArgs, []⟩ = true := by kernel_rfl
  exact ⟨World.laidAll Tryd.prog os laid3, fun _ _ => 0, ⟨#[], zeroArgs, []⟩, World.laidAll_os _ _ _, World.shaped_of_ZipB (by kernel_rfl) (by kernel_rfl), (Input.okWide_of_okWideB (base := 0) hok).1, (Input.okWide_of_okWideB hok).2, witness_row os enc, by
    simp only [Assume.holds]
    exact ⟨by simp, by simp, fun _ => Modest.zero, by simp, by simp⟩⟩
set_option maxRecDepth 100000 in
theorem lifted (os : Os) (started : os.Started) (H : Type) (enc : TypeId × Value → H) (F : Stop.Interp) :
    ReturnsInHanded {} Tryd.checked os 6 .any (S3.preRow enc Tryd.prog Tryd.f6 Rows.scriptOctetsUptoRow.domain false laid3) ((S3.at F).post enc Tryd.prog Tryd.f6 false true false false) := by
  refine returnsInHanded_of_row (C := Tryd.checked) (s := S3) own started (by kernel_rfl) Tryd.func6 (witness os enc) ?_
  intro W base args ds gs before hval0 hW _ hk0 _ hL hsh _
  have hval : ∀ (j : Nat) t v, Tryd.f6.params[j]? = some t → args[j]? = some v → Value.okWide Tryd.prog W .any base t v := hval0
  have hW' := hW
  obtain ⟨p, q, hA0, hV, rfl, hfz, hnd⟩ := hW
  have hA : DataW.TrodAll enc Tryd.prog W 0 (fun _ => true) true Tryd.f6.params.toList args.toList ds p := hA0
  rw [Tryd.params6] at hA hval
  obtain ⟨v0, vs0, d0, ds0, p0, q0, hargs, rfl, rfl, h0, r0⟩ := trodAll_cons hA
  obtain ⟨v1, vs1, d1, ds1, p1, q1, rfl, rfl, rfl, h1, r1⟩ := trodAll_cons r0
  obtain ⟨rfl, rfl, rfl⟩ := trodAll_nil r1
  obtain rfl : args = #[v0, v1] := by cases args; simp_all
  obtain ⟨rfl, rfl⟩ := trodVars_none hV
  have hk : Rows.uptoBulkAll _ ≤ 1048576 := of_decide_eq_true (hk0 _ rfl)
  obtain ⟨a0, len0, cap0, rfl⟩ := okWide_slice Tryd.underlying33 (hval 0 33 v0 rfl rfl)
  obtain ⟨s1, rfl, rfl, rfl, ws1⟩ := open_string Tryd.underlying9 (hval 1 9 v1 rfl rfl) h1
  have k0 := h0
  have lt0 : ∀ x ∈ p0, x.block < W.heap.size := by obtain ⟨m, hm⟩ := k0; exact DataW.trod_lt m _ _ _ hm
  obtain ⟨xs, hx1, hx2, hx3⟩ : ∃ xs : List Int, ReadsInt W .u8 a0 len0 xs ∧ (∀ x ∈ xs, (Lit.int .u8 x).wf = true) ∧ len0 ≤ 1048576 := by
    obtain ⟨fuel, hf⟩ := h0
    rcases open_ints Tryd.underlying33 Tryd.underlying5 (by kernel_rfl) hf with ⟨hcs, _⟩ | ⟨x, l, c, zs, hcs, _, hl, hm, hz, hx, hcell, hwz⟩
    · simp [Value.cells] at hcs
      obtain ⟨rfl, rfl, rfl⟩ := hcs
      exact ⟨[], ⟨rfl, by omega, fun h => absurd h (by omega)⟩, by simp, by omega⟩
    · simp [Value.cells] at hcs
      obtain ⟨rfl, rfl, rfl⟩ := hcs
      have hd := (Prod.mk.inj hx).1
      simp only [hd, Rows.uptoBulkAll, Rows.uptoBulk, List.append_nil, List.cons_append, List.nil_append] at hk
      have b0 := length_le (lits (H := H) .u8 (zs.take len0))
      have hz' : zs.length = cap0 := by simpa using hz
      have b1 : (lits (H := H) .u8 (zs.take len0)).length = len0 := by simp [lits]; omega
      refine ⟨zs.take len0, ⟨by simp; omega, by unfold maxLen at hm; omega, fun hn => ⟨_, rfl, fun j hj => ?_⟩⟩, fun x hx => hwz x (List.mem_of_mem_take hx), by omega⟩
      rw [hcell j (by omega)]
      simp [List.getD_eq_getElem?_getD, hj]
  have hxl : xs.length = len0 := hx1.1
  subst hxl
  clear hA0 hval0 hk0 hk
  refine (scriptOctets a0 cap0 xs s1 W hx1 hx2 (by omega) (of_laid hL)).mono fun e W' ⟨he, bel⟩ => ?_
  subst he
  exact ⟨_, rfl, _, _, _, [], _, [], hW', trodAll_mk1 (shut_bool Tryd.underlying4 _), (trodAll_cons_mk (Below.trod laidOut (by kernel_rfl) (of_decide_eq_true (by kernel_rfl)) k0 bel lt0) (trodAll_cons_mk (shut_string Tryd.underlying9 ws1) trodAll_mk0)), rfl, bel.frame _, fun h => by cases h⟩
theorem over : Rows.ScriptOctetsUptoSaid :=
  OpenClaim.holds_of_cond 6 Tryd.f6 rfl rfl rfl rfl rfl rfl rfl ⟨rfl, rfl, rfl, rfl, rfl⟩ rfl rfl rfl rfl rfl (by kernel_rfl) Tryd.func6 (by kernel_rfl)
    (of_decide_eq_true (by kernel_rfl)) (by unfold Func.isWrapper; first | (rw [if_pos (by decide +kernel)]; kernel_rfl) | (rw [if_neg (by decide +kernel)]; exact ⟨rfl, rfl⟩))
    (fun os started H enc _ F => by rw [OpenClaim.pre_eq_preRow]; exact lifted os started H enc F)
theorem card : Rows.ScriptOctetsUptoCardSaid :=
  Claim7.holds_tied_plain_at .later [] [.data, .data, .data, .sentinel, .sentinel] true (true, "08ddf5661042af94a2664162f7f73739441d59735a4ea5ad76a459364c248d48") true
    over (fun _ h => by cases h) (by kernel_rfl) (fun _ h => by cases h) scriptOctetsUpto_row_tie rfl ⟨rfl, rfl⟩ (by kernel_rfl) rfl
    (fun f fn hf hfn => by
      obtain rfl : f = 6 := Option.some.inj ((show Tryd.prog.funcNamed "corncrib/cornlaw1.ScriptOctets" = some 6 by kernel_rfl).symm.trans hf) |>.symm
      obtain rfl : fn = Tryd.f6 := (Option.some.inj (Tryd.func6.symm.trans hfn)).symm
      exact ⟨by kernel_rfl, fun j t ht => by
        rw [Tryd.params6] at ht
        have hall : ∀ t ∈ ([33, 9] : List TypeId), Tryd.prog.wantsStandIn t = false := by
          intro t ht
          simp only [List.mem_cons, List.mem_nil_iff, or_false] at ht
          rcases ht with rfl | rfl <;> kernel_rfl
        exact hall t (by simpa using Array.mem_of_getElem? ht)⟩)
    (by kernel_rfl)
#print axioms card
end Go.Proofs.YtnikkejfpnnmcaaDoor.scriptOctetsUpto
namespace Go.Proofs.YtnikkejfpnnmcaaDoor
theorem scriptOctetsUpto_holds : Rows.ScriptOctetsUptoCardSaid := scriptOctetsUpto.card
end Go.Proofs.YtnikkejfpnnmcaaDoor
