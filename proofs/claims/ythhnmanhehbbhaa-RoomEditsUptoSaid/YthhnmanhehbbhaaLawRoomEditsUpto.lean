/- Edits of a slice, whatever policy and room it has, are those of a plain string, for all arguments of bulk at most 1048576. -/
import Derived.Deep.Slices
import Derived.Test.YthhnmanhehbbhaaRows
import Derived.Test.YthhnmanhehbbhaaEdits
import Derived.JoinedCond
import Derived.ChangeSlices
import Derived.WalkKit
import Derived.ProofKit
import Derived.OpenShut
import Derived.ShutString
import Derived.ChangeOld
import Derived.Below
import Derived.SizedLaws
import Derived.Lib.SmallJoins
import Derived.Test.YthhnmanhehbbhaaWSized
namespace Go.Proofs.Ythhnmanhehbbhaa.roomEditsUpto
open Go.ChangeShapes Go.WideShapes Go.ChangeAt Go.RowKit Go.Joins Go.Proofs.YthhnmanhehbbhaaW
open Go.ChangeMaps (open_string shut_string)
set_option linter.unusedVariables false
set_option linter.unusedSimpArgs false
theorem own : ownKnob Try.prog.godebug = none := by kernel_rfl
theorem laidOut : laidOutB Try.prog = true := by kernel_rfl
def IsRow (k : IntKind) (w : World) (a : Option Addr) (len cap : Nat) (zs : List Int) : Prop :=
  (a = none ∧ len = 0 ∧ cap = 0 ∧ zs = []) ∨
  ∃ x, a = some x ∧ len ≤ cap ∧ cap ≤ maxLen ∧ zs.length = cap ∧ (∀ i, i < zs.length → w.cell? (x.add i) = some (.int k (zs.getD i 0))) ∧ ∀ n ∈ zs, (Lit.int k n).wf = true
theorem cellsP : Try.prog.cellsOf 23 = 3 := by kernel_rfl
theorem cellsT : Try.prog.cellsOf 48 = 3 := by kernel_rfl
theorem cellsI : Try.prog.cellsOf 3 = 1 := by kernel_rfl
theorem one_le {H : Type} (d : DataW H) : 1 ≤ Rows.uptoBulk d := by
  cases d with
  | lit l => cases l <;> simp [Rows.uptoBulk]
  | _ => simp [Rows.uptoBulk]
theorem length_le {H : Type} (l : List (DataW H)) : l.length ≤ Rows.uptoBulkAll l := by
  induction l with
  | nil => simp [Rows.uptoBulkAll]
  | cons x r ih => have := one_le x; simp only [Rows.uptoBulkAll, List.length_cons]; omega
set_option maxRecDepth 100000 in
theorem lifted (os : Os) (started : os.Started) (H : Type) (enc : TypeId × Value → H) (F : Stop.Interp) :
    ReturnsInHanded {} Try.checked os 4 .any ((Rows.OpenSpec.upto Rows.roomEditsSpec).pre6 enc Try.prog Try.f4 Rows.roomEditsUptoRow.domain false) (((Rows.OpenSpec.upto Rows.roomEditsSpec).at F).post enc Try.prog Try.f4 false true false false) := by
  refine returnsInHanded_of_cond (C := Try.checked) (s := Rows.OpenSpec.upto Rows.roomEditsSpec) (k := Rows.uptoSmall) rfl own started (by kernel_rfl) Try.func4
    (OpenSpec.witness (enc := enc) (C := Try.checked) (s := Rows.OpenSpec.upto Rows.roomEditsSpec) (k := Rows.uptoSmall) rfl false ⟨#[], #[.agg #[.int .i64 0, .int .i64 0, .int .i64 0], .slice none 0 0, .int .i64 0, .slice none 0 0, .slice none 0 0], []⟩ 8 (by kernel_rfl) (by kernel_rfl) (by kernel_rfl)
      (x := ([.agg [.lit (.int .i64 0), .lit (.int .i64 0), .lit (.int .i64 0)], .nil, .lit (.int .i64 0), .nil, .nil], [], [])) (by kernel_rfl) rfl (by kernel_rfl)) ?_
  intro W base args ds gs before hval0 hW _ hk0 _
  have hval : ∀ (j : Nat) t v, Try.f4.params[j]? = some t → args[j]? = some v → Value.okWide Try.prog W .any base t v := hval0
  have hW' := hW
  obtain ⟨p, q, hA0, hV, rfl, hfz, hnd⟩ := hW
  have hA : DataW.TrodAll enc Try.prog W 0 (fun _ => true) true Try.f4.params.toList args.toList ds p := hA0
  rw [Try.params4] at hA hval
  obtain ⟨v0, vs0, d0, ds0, p0, q0, hargs, rfl, rfl, h0, r0⟩ := trodAll_cons hA
  obtain ⟨v1, vs1, d1, ds1, p1, q1, rfl, rfl, rfl, h1, r1⟩ := trodAll_cons r0
  obtain ⟨v2, vs2, d2, ds2, p2, q2, rfl, rfl, rfl, h2, r2⟩ := trodAll_cons r1
  obtain ⟨v3, vs3, d3, ds3, p3, q3, rfl, rfl, rfl, h3, r3⟩ := trodAll_cons r2
  obtain ⟨v4, vs4, d4, ds4, p4, q4, rfl, rfl, rfl, h4, r4⟩ := trodAll_cons r3
  obtain ⟨rfl, rfl, rfl⟩ := trodAll_nil r4
  obtain rfl : args = #[v0, v1, v2, v3, v4] := by cases args; simp_all
  obtain ⟨rfl, rfl⟩ := trodVars_none hV
  have hk : Rows.uptoBulkAll _ ≤ 1048576 := of_decide_eq_true hk0
  obtain ⟨b00, b01, b02, z00, z01, z02, m0, rfl, rfl, rfl, hz00, hz01, hz02⟩ := open_agg3 Try.underlying23 (by kernel_rfl) cellsP (hval 0 23 v0 rfl rfl) h0
  obtain ⟨a0_0, e00, rfl, w00⟩ := DataW.trod_int Try.underlying3 hz00
  obtain ⟨a0_1, e01, rfl, w01⟩ := DataW.trod_int Try.underlying3 hz01
  obtain ⟨a0_2, e02, rfl, w02⟩ := DataW.trod_int Try.underlying3 hz02
  simp at e00 e01 e02
  subst e00 e01 e02
  obtain ⟨a1, len1, cap1, rfl⟩ := okWide_slice Try.underlying24 (hval 1 24 v1 rfl rfl)
  have k1 := h1
  have lt1 : ∀ x ∈ p1, x.block < W.heap.size := by obtain ⟨m, hm⟩ := k1; exact DataW.trod_lt m _ _ _ hm
  obtain ⟨z1, w1, y1⟩ : ∃ zs, IsRow .u8 W a1 len1 cap1 zs ∧ len1 ≤ 1048576 := by
    obtain ⟨fuel, hf⟩ := h1
    rcases open_ints Try.underlying24 Try.underlying5 (by kernel_rfl) hf with ⟨hcs, _⟩ | ⟨x, l, c, zs, hcs, _, hl, hm, hz, hx, hcell, hwz⟩
    · simp [Value.cells] at hcs
      obtain ⟨rfl, rfl, rfl⟩ := hcs
      exact ⟨[], .inl ⟨rfl, rfl, rfl, rfl⟩, by omega⟩
    · simp [Value.cells] at hcs
      obtain ⟨rfl, rfl, rfl⟩ := hcs
      have hd := (Prod.mk.inj hx).1
      simp only [hd, Rows.uptoBulkAll, Rows.uptoBulk, List.append_nil, List.cons_append, List.nil_append] at hk
      have b0 := length_le (lits (H := H) .u8 (zs.take len1))
      have hz' : zs.length = cap1 := by simpa using hz
      have b1 : (lits (H := H) .u8 (zs.take len1)).length = len1 := by simp [lits]; omega
      exact ⟨zs, .inr ⟨_, rfl, hl, hm, hz', hcell, hwz⟩, by omega⟩
  obtain ⟨a2, rfl, rfl, rfl, w2⟩ := open_int Try.underlying3 (hval 2 3 v2 rfl rfl) h2
  obtain ⟨a3, len3, cap3, rfl⟩ := okWide_slice Try.underlying44 (hval 3 44 v3 rfl rfl)
  have k3 := h3
  have lt3 : ∀ x ∈ p3, x.block < W.heap.size := by obtain ⟨m, hm⟩ := k3; exact DataW.trod_lt m _ _ _ hm
  obtain ⟨z3, w3, y3⟩ : ∃ T : Nat → Int × Int × Int, ((a3 = none ∧ len3 = 0 ∧ cap3 = 0) ∨ ∃ x, a3 = some x ∧ len3 ≤ cap3 ∧ ∀ i, i < len3 → W.cell? (x.add (i * 3)) = some (.int .i64 (T i).1) ∧ W.cell? (x.add (i * 3 + 1)) = some (.int .i64 (T i).2.1) ∧ W.cell? (x.add (i * 3 + 2)) = some (.int .i64 (T i).2.2)) ∧ len3 ≤ 1048576 := by
    obtain ⟨fuel, hf⟩ := h3
    rcases Deep.open_slice Try.underlying44 hf with ⟨hcs, _⟩ | ⟨x, l, c, m, n, D, Pl, hcs, _, hl, hm, hmm, hx, hi⟩
    · simp [Value.cells] at hcs
      obtain ⟨rfl, rfl, rfl⟩ := hcs
      exact ⟨fun _ => (0, 0, 0), .inl ⟨rfl, rfl, rfl⟩, by first | omega | trivial⟩
    · simp [Value.cells] at hcs
      obtain ⟨rfl, rfl, rfl⟩ := hcs
      have hd := (Prod.mk.inj hx).1
      simp only [hd, Rows.uptoBulkAll, Rows.uptoBulk, List.append_nil, List.cons_append, List.nil_append] at hk
      have b0 := length_le ((List.range len3).map D)
      rw [List.length_map, List.length_range] at b0
      have hT : ∀ i, ∃ tr : Int × Int × Int, i < len3 → W.cell? (x.add (i * 3)) = some (.int .i64 tr.1) ∧ W.cell? (x.add (i * 3 + 1)) = some (.int .i64 tr.2.1) ∧ W.cell? (x.add (i * 3 + 2)) = some (.int .i64 tr.2.2) := by
        intro i
        by_cases hlt : i < len3
        · obtain ⟨cs', hc, ht⟩ := hi i (by rw [hmm]; split <;> omega)
          rw [cellsT] at hc
          obtain ⟨_, hcl, hat⟩ := World.cells?_some hc
          obtain ⟨xs, m1, _, _, _, _, hel⟩ := DataW.trod_array Try.underlying48 ht
          match cs', hcl with
          | [c0, c1, c2], _ =>
            have e0 := hel 0 (by omega)
            have e1 := hel 1 (by omega)
            have e2 := hel 2 (by omega)
            rw [cellsI] at e0 e1 e2
            simp at e0 e1 e2
            have g : ∀ {c : Value} {y : Option (DataW H × List MemPlace)} {z : DataW H × List MemPlace}, DataW.trod enc Try.prog W 0 (fun _ => true) true m1 3 [c] = y → y = some z → ∃ n, c = .int .i64 n := fun h h2 => by
              obtain ⟨n, hn, _⟩ := DataW.trod_int Try.underlying3 (h.trans h2)
              exact ⟨n, by simpa using hn⟩
            obtain ⟨n0, rfl⟩ := g e0 (List.getElem?_eq_getElem (by omega))
            obtain ⟨n1, rfl⟩ := g e1 (List.getElem?_eq_getElem (by omega))
            obtain ⟨n2, rfl⟩ := g e2 (List.getElem?_eq_getElem (by omega))
            refine ⟨(n0, n1, n2), fun _ => ⟨?_, ?_, ?_⟩⟩
            · have := hat 0 (by omega)
              simpa [Addr.add] using this
            · have := hat 1 (by omega)
              rw [← Go.Deep.add_add]; simpa using this
            · have := hat 2 (by omega)
              rw [← Go.Deep.add_add]; simpa using this
        · exact ⟨(0, 0, 0), fun h => absurd h hlt⟩
      obtain ⟨T, hT⟩ := Classical.axiomOfChoice hT
      exact ⟨T, .inr ⟨_, rfl, hl, hT⟩, by first | omega | trivial⟩
  obtain ⟨a4, len4, cap4, rfl⟩ := okWide_slice Try.underlying24 (hval 4 24 v4 rfl rfl)
  have k4 := h4
  have lt4 : ∀ x ∈ p4, x.block < W.heap.size := by obtain ⟨m, hm⟩ := k4; exact DataW.trod_lt m _ _ _ hm
  obtain ⟨z4, w4, y4⟩ : ∃ zs, IsRow .u8 W a4 len4 cap4 zs ∧ len4 ≤ 1048576 := by
    obtain ⟨fuel, hf⟩ := h4
    rcases open_ints Try.underlying24 Try.underlying5 (by kernel_rfl) hf with ⟨hcs, _⟩ | ⟨x, l, c, zs, hcs, _, hl, hm, hz, hx, hcell, hwz⟩
    · simp [Value.cells] at hcs
      obtain ⟨rfl, rfl, rfl⟩ := hcs
      exact ⟨[], .inl ⟨rfl, rfl, rfl, rfl⟩, by omega⟩
    · simp [Value.cells] at hcs
      obtain ⟨rfl, rfl, rfl⟩ := hcs
      have hd := (Prod.mk.inj hx).1
      simp only [hd, Rows.uptoBulkAll, Rows.uptoBulk, List.append_nil, List.cons_append, List.nil_append] at hk
      have b0 := length_le (lits (H := H) .u8 (zs.take len4))
      have hz' : zs.length = cap4 := by simpa using hz
      have b1 : (lits (H := H) .u8 (zs.take len4)).length = len4 := by simp [lits]; omega
      exact ⟨zs, .inr ⟨_, rfl, hl, hm, hz', hcell, hwz⟩, by omega⟩
  clear hA0 hval0 hk0 hk
  refine (Oct.roomEdits_row a0_0 a0_1 a0_2 a1 len1 cap1 z1 a2 a3 len3 cap3 z3 a4 len4 cap4 z4 W w00 w01 w02 w1 y1 w2 w3 y3 w4 y4).mono fun e W' ⟨he, bel⟩ => ?_
  subst he
  have sr0 : ∀ sp : Nat → Bool, DataW.Trod enc Try.prog W' 0 sp true 23 (.agg #[.int .i64 a0_0, .int .i64 a0_1, .int .i64 a0_2]) (.agg [.lit (.int .i64 a0_0), .lit (.int .i64 a0_1), .lit (.int .i64 a0_2)]) [] :=
    fun sp => shut_agg3 (y0 := (.lit (.int .i64 a0_0), [])) (y1 := (.lit (.int .i64 a0_1), [])) (y2 := (.lit (.int .i64 a0_2), [])) Try.underlying23 (by kernel_rfl) cellsP ⟨1, by simp [DataW.trod, Try.underlying3, w00]⟩ ⟨1, by simp [DataW.trod, Try.underlying3, w01]⟩ ⟨1, by simp [DataW.trod, Try.underlying3, w02]⟩
  exact ⟨_, rfl, _, _, _, [], _, [], hW', trodAll_mk1 (shut_bool Try.underlying4 _), (trodAll_cons_mk (sr0 _) (trodAll_cons_mk (Below.trod laidOut (by kernel_rfl) (of_decide_eq_true (by kernel_rfl)) k1 bel lt1) (trodAll_cons_mk (shut_int Try.underlying3 w2) (trodAll_cons_mk (Below.trod laidOut (by kernel_rfl) (of_decide_eq_true (by kernel_rfl)) k3 bel lt3) (trodAll_cons_mk (Below.trod laidOut (by kernel_rfl) (of_decide_eq_true (by kernel_rfl)) k4 bel lt4) trodAll_mk0))))), rfl, bel.frame _, fun h => by cases h⟩
theorem proved : Rows.RoomEditsUptoSaid :=
  OpenClaim.holds_of_cond 4 Try.f4 rfl rfl rfl rfl rfl rfl rfl ⟨rfl, rfl, rfl, rfl, rfl⟩ rfl rfl rfl rfl rfl (by kernel_rfl) Try.func4 (by kernel_rfl)
    (of_decide_eq_true (by kernel_rfl)) (by unfold Func.isWrapper; first | (rw [if_pos (by decide +kernel)]; kernel_rfl) | (rw [if_neg (by decide +kernel)]; exact ⟨rfl, rfl⟩))
    (fun os started H enc _ F => lifted os started H enc F)
#print axioms proved
end Go.Proofs.Ythhnmanhehbbhaa.roomEditsUpto
namespace Go.Proofs.Ythhnmanhehbbhaa
theorem roomEditsUpto_holds : Rows.RoomEditsUptoSaid := roomEditsUpto.proved
end Go.Proofs.Ythhnmanhehbbhaa
