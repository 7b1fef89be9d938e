/- Regions that live have no octet in common and lie within their chunks, a release of a mark leaves what was there at the mark, and octets that are written stay, for all policies, sizes, takes and marks. No condition. -/
import Derived.Deep.Slices
import Derived.Test.YticbjaclnneaoaaRows
import Derived.Test.YticbjaclnneaoaaTopArena
import Derived.WalkKit
import Derived.ProofKit
import Derived.OpenShut
import Derived.ShutString
import Derived.ChangeOld
import Derived.Below
import Derived.SizedLaws
import Derived.Lib.SmallJoins
import Derived.Test.YticbjaclnneaoaaWSized
namespace Go.Proofs.Yticbjaclnneaoaa.topArena
open Go.ChangeShapes Go.WideShapes Go.ChangeAt Go.RowKit Go.Joins Go.Proofs.YticbjaclnneaoaaW
open Go.ChangeMaps (open_string shut_string)
set_option linter.unusedVariables false
set_option linter.unusedSimpArgs false
theorem own : ownKnob Try.prog.godebug = none := by kernel_rfl
theorem laidOut : laidOutB Try.prog = true := by kernel_rfl
def IsRow (k : IntKind) (w : World) (a : Option Addr) (len cap : Nat) (zs : List Int) : Prop :=
  (a = none ∧ len = 0 ∧ cap = 0 ∧ zs = []) ∨
  ∃ x, a = some x ∧ len ≤ cap ∧ cap ≤ maxLen ∧ zs.length = cap ∧ (∀ i, i < zs.length → w.cell? (x.add i) = some (.int k (zs.getD i 0))) ∧ ∀ n ∈ zs, (Lit.int k n).wf = true
theorem cellsP : Try.prog.cellsOf 23 = 3 := by kernel_rfl
theorem cellsT : Try.prog.cellsOf 37 = 2 := by kernel_rfl
theorem cellsI : Try.prog.cellsOf 3 = 1 := by kernel_rfl
set_option maxRecDepth 100000 in
theorem lifted (os : Os) (started : os.Started) (H : Type) (enc : TypeId × Value → H) :
    ReturnsInHanded {} Try.checked os 3 .any (Rows.topArenaSpec.pre6 enc Try.prog Try.f3 Rows.topArenaRow.domain false) (Rows.topArenaSpec.post enc Try.prog Try.f3 false true false false) := by
  refine returnsInHanded_of_change_sized (C := Try.checked) own started (by kernel_rfl) Try.func3
    (ChangeSpec.witness6 (enc := enc) (C := Try.checked) false ⟨#[], #[.agg #[.int .i64 0, .int .i64 0, .int .i64 0], .int .i64 0, .slice none 0 0, .slice none 0 0], []⟩ 8 (by kernel_rfl) (by kernel_rfl) (by kernel_rfl) (by kernel_rfl)) ?_
  intro W base args ds gs before hval0 hW hcnd hsz0 _
  have hsz : (DataW.weightsEach Try.prog (Try.f3.params.toList ++ Rows.topArenaSpec.plain.varTypes Try.prog) (ds ++ gs)).all (· ≤ reachBytes) = true := hsz0
  have hval : ∀ (j : Nat) t v, Try.f3.params[j]? = some t → args[j]? = some v → Value.okWide Try.prog W .any base t v := hval0
  have hW' := hW
  obtain ⟨p, q, hA0, hV, rfl, hfz, hnd⟩ := hW
  have hA : DataW.TrodAll enc Try.prog W 0 (fun _ => true) true Try.f3.params.toList args.toList ds p := hA0
  rw [Try.params3] at hA hval hsz
  obtain ⟨v0, vs0, d0, ds0, p0, q0, hargs, rfl, rfl, h0, r0⟩ := trodAll_cons hA
  obtain ⟨v1, vs1, d1, ds1, p1, q1, rfl, rfl, rfl, h1, r1⟩ := trodAll_cons r0
  obtain ⟨v2, vs2, d2, ds2, p2, q2, rfl, rfl, rfl, h2, r2⟩ := trodAll_cons r1
  obtain ⟨v3, vs3, d3, ds3, p3, q3, rfl, rfl, rfl, h3, r3⟩ := trodAll_cons r2
  obtain ⟨rfl, rfl, rfl⟩ := trodAll_nil r3
  obtain rfl : args = #[v0, v1, v2, v3] := by cases args; simp_all
  obtain ⟨rfl, rfl⟩ := trodVars_none hV
  obtain ⟨b00, b01, b02, z00, z01, z02, m0, rfl, rfl, rfl, hz00, hz01, hz02⟩ := open_agg3 Try.underlying23 (by kernel_rfl) cellsP (hval 0 23 v0 rfl rfl) h0
  obtain ⟨a0_0, e00, rfl, w00⟩ := DataW.trod_int Try.underlying3 hz00
  obtain ⟨a0_1, e01, rfl, w01⟩ := DataW.trod_int Try.underlying3 hz01
  obtain ⟨a0_2, e02, rfl, w02⟩ := DataW.trod_int Try.underlying3 hz02
  simp at e00 e01 e02
  subst e00 e01 e02
  obtain ⟨a1, rfl, rfl, rfl, w1⟩ := open_int Try.underlying3 (hval 1 3 v1 rfl rfl) h1
  obtain ⟨a2, len2, cap2, rfl⟩ := okWide_slice Try.underlying24 (hval 2 24 v2 rfl rfl)
  have k2 := h2
  have lt2 : ∀ x ∈ p2, x.block < W.heap.size := by obtain ⟨m, hm⟩ := k2; exact DataW.trod_lt m _ _ _ hm
  obtain ⟨z2, w2, y2⟩ : ∃ T : Nat → Int × Int, ((a2 = none ∧ len2 = 0 ∧ cap2 = 0) ∨ ∃ x, a2 = some x ∧ len2 ≤ cap2 ∧ cap2 ≤ maxLen ∧ ∀ i, i < len2 → W.cell? (x.add (i * 2)) = some (.int .i64 (T i).1) ∧ W.cell? (x.add (i * 2 + 1)) = some (.int .i64 (T i).2)) ∧ len2 * 16 ≤ 140737488351232 := by
    obtain ⟨fuel, hf⟩ := h2
    rcases Deep.open_slice Try.underlying24 hf with ⟨hcs, _⟩ | ⟨x, l, c, m, n, D, Pl, hcs, _, hl, hm, hmm, hx, hi⟩
    · simp [Value.cells] at hcs
      obtain ⟨rfl, rfl, rfl⟩ := hcs
      exact ⟨fun _ => (0, 0), .inl ⟨rfl, rfl, rfl⟩, by omega⟩
    · simp [Value.cells] at hcs
      obtain ⟨rfl, rfl, rfl⟩ := hcs
      have hd := (Prod.mk.inj hx).1
      subst hd
      have hzz := sized_slice hsz (j := 2) (t := 24) rfl rfl Try.underlying24
      have hB : Try.prog.bytesOf 37 = 16 := by kernel_rfl
      simp only [List.length_map, List.length_range, hB] at hzz
      unfold reachBytes at hzz
      have hT : ∀ i, ∃ tr : Int × Int, i < len2 → W.cell? (x.add (i * 2)) = some (.int .i64 tr.1) ∧ W.cell? (x.add (i * 2 + 1)) = some (.int .i64 tr.2) := by
        intro i
        by_cases hlt : i < len2
        · obtain ⟨cs', hc, ht⟩ := hi i (by rw [hmm]; split <;> omega)
          rw [cellsT] at hc
          obtain ⟨_, hcl, hat⟩ := World.cells?_some hc
          obtain ⟨xs, m1, _, _, _, _, hel⟩ := DataW.trod_array Try.underlying37 ht
          match cs', hcl with
          | [c0, c1], _ =>
            have e0 := hel 0 (by omega)
            have e1 := hel 1 (by omega)
            rw [cellsI] at e0 e1
            simp at e0 e1
            have g : ∀ {c : Value} {y : Option (DataW H × List MemPlace)} {z : DataW H × List MemPlace}, DataW.trod enc Try.prog W 0 (fun _ => true) true m1 3 [c] = y → y = some z → ∃ n, c = .int .i64 n := fun h h2 => by
              obtain ⟨n, hn, _⟩ := DataW.trod_int Try.underlying3 (h.trans h2)
              exact ⟨n, by simpa using hn⟩
            obtain ⟨n0, rfl⟩ := g e0 (List.getElem?_eq_getElem (by omega))
            obtain ⟨n1, rfl⟩ := g e1 (List.getElem?_eq_getElem (by omega))
            refine ⟨(n0, n1), fun _ => ⟨?_, ?_⟩⟩
            · have := hat 0 (by omega)
              simpa [Addr.add] using this
            · have := hat 1 (by omega)
              rw [← Go.Deep.add_add]; simpa using this
        · exact ⟨(0, 0), fun h => absurd h hlt⟩
      obtain ⟨T, hT⟩ := Classical.axiomOfChoice hT
      exact ⟨T, .inr ⟨_, rfl, hl, hm, hT⟩, by omega⟩
  obtain ⟨a3, len3, cap3, rfl⟩ := okWide_slice Try.underlying25 (hval 3 25 v3 rfl rfl)
  have k3 := h3
  have lt3 : ∀ x ∈ p3, x.block < W.heap.size := by obtain ⟨m, hm⟩ := k3; exact DataW.trod_lt m _ _ _ hm
  obtain ⟨z3, w3⟩ : ∃ zs, IsRow .i64 W a3 len3 cap3 zs := by
    obtain ⟨fuel, hf⟩ := h3
    rcases open_ints Try.underlying25 Try.underlying3 (by kernel_rfl) hf with ⟨hcs, _⟩ | ⟨x, l, c, zs, hcs, _, hl, hm, hz, _, hcell, hwz⟩
    · simp [Value.cells] at hcs
      obtain ⟨rfl, rfl, rfl⟩ := hcs
      exact ⟨[], .inl ⟨rfl, rfl, rfl, rfl⟩⟩
    · simp [Value.cells] at hcs
      obtain ⟨rfl, rfl, rfl⟩ := hcs
      exact ⟨zs, .inr ⟨_, rfl, hl, hm, by simpa using hz, hcell, hwz⟩⟩
  have y3 : len3 * 8 ≤ 140737488351232 := PrintWords.sized_ints hsz (j := 3) (t := 25) rfl rfl Try.underlying25 Try.underlying3 (by kernel_rfl) (by kernel_rfl) h3
  clear hA0 hval0 hsz0 hsz
  refine (Arena.topArena_row a0_0 a0_1 a0_2 a1 a2 len2 cap2 z2 a3 len3 cap3 z3 W w00 w01 w02 w1 w2 y2 w3 y3).mono fun e W' ⟨he, bel⟩ => ?_
  subst he
  have sr0 : ∀ sp : Nat → Bool, DataW.Trod enc Try.prog W' 0 sp true 23 (.agg #[.int .i64 a0_0, .int .i64 a0_1, .int .i64 a0_2]) (.agg [.lit (.int .i64 a0_0), .lit (.int .i64 a0_1), .lit (.int .i64 a0_2)]) [] :=
    fun sp => shut_agg3 (y0 := (.lit (.int .i64 a0_0), [])) (y1 := (.lit (.int .i64 a0_1), [])) (y2 := (.lit (.int .i64 a0_2), [])) Try.underlying23 (by kernel_rfl) cellsP ⟨1, by simp [DataW.trod, Try.underlying3, w00]⟩ ⟨1, by simp [DataW.trod, Try.underlying3, w01]⟩ ⟨1, by simp [DataW.trod, Try.underlying3, w02]⟩
  exact ⟨_, rfl, _, _, _, [], _, [], hW', trodAll_mk1 (shut_bool Try.underlying4 _), (trodAll_cons_mk (sr0 _) (trodAll_cons_mk (shut_int Try.underlying3 w1) (trodAll_cons_mk (Below.trod laidOut (by kernel_rfl) (of_decide_eq_true (by kernel_rfl)) k2 bel lt2) (trodAll_cons_mk (Below.trod laidOut (by kernel_rfl) (of_decide_eq_true (by kernel_rfl)) k3 bel lt3) trodAll_mk0)))), rfl, bel.frame _, fun h => by cases h⟩
theorem over : Rows.topArenaRow.holds Try.pinned (OpenSpec.ofChange Rows.topArenaSpec) :=
  OpenClaim.holds_of_wide 3 Try.f3 rfl rfl rfl rfl rfl rfl rfl ⟨rfl, rfl, rfl, rfl, rfl⟩ rfl rfl rfl rfl rfl (by kernel_rfl) Try.func3 (by kernel_rfl)
    (of_decide_eq_true (by kernel_rfl)) (by unfold Func.isWrapper; first | (rw [if_pos (by decide +kernel)]; kernel_rfl) | (rw [if_neg (by decide +kernel)]; exact ⟨rfl, rfl⟩))
    (fun os started H enc _ => lifted os started H enc)
theorem proved : Rows.TopArenaSaid := over
#print axioms proved
end Go.Proofs.Yticbjaclnneaoaa.topArena
namespace Go.Proofs.Yticbjaclnneaoaa
theorem topArena_holds : Rows.TopArenaSaid := topArena.proved
end Go.Proofs.Yticbjaclnneaoaa
