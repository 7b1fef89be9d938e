/- Overlap, Same, Meets, Groups, Cover, Spare, Fenced and Diff are as specified for up to 12 slices of three memories, which stay what they were. -/
import Derived.Deep.Slices
import Derived.Test.YtghdeoeajbnfkaaRows
import Derived.Test.YtghdeoeajbnfkaaWSlc
import Derived.WalkKit
import Derived.ProofKit
import Derived.OpenShut
import Derived.ShutString
import Derived.ChangeOld
import Derived.Below
import Derived.SizedLaws
import Derived.Lib.SmallJoins
import Derived.Test.YtghdeoeajbnfkaaWSized
namespace Go.Proofs.Ytghdeoeajbnfkaa.watchSlices
open Go.ChangeShapes Go.WideShapes Go.ChangeAt Go.RowKit Go.Joins Go.Proofs.YtghdeoeajbnfkaaW
open Go.ChangeMaps (open_string shut_string)
set_option linter.unusedVariables false
set_option linter.unusedSimpArgs false
theorem own : ownKnob Try.prog.godebug = none := by kernel_rfl
theorem laidOut : laidOutB Try.prog = true := by kernel_rfl
def IsRow (k : IntKind) (w : World) (a : Option Addr) (len cap : Nat) (zs : List Int) : Prop :=
  (a = none ∧ len = 0 ∧ cap = 0 ∧ zs = []) ∨
  ∃ x, a = some x ∧ len ≤ cap ∧ cap ≤ maxLen ∧ zs.length = cap ∧ (∀ i, i < zs.length → w.cell? (x.add i) = some (.int k (zs.getD i 0))) ∧ ∀ n ∈ zs, (Lit.int k n).wf = true
theorem cellsT : Try.prog.cellsOf 47 = 3 := by kernel_rfl
theorem cellsI : Try.prog.cellsOf 3 = 1 := by kernel_rfl
theorem int_of {H : Type} {enc : TypeId × Value → H} {W : World} {m1 : Nat} {c : Value} {y : Option (DataW H × List MemPlace)} {z : DataW H × List MemPlace} (h : DataW.trod enc Try.prog W 0 (fun _ => true) true m1 3 [c] = y) (h2 : y = some z) : ∃ n, c = .int .i64 n := by
  obtain ⟨n, hn, _⟩ := DataW.trod_int Try.underlying3 (h.trans h2)
  exact ⟨n, by simpa using hn⟩

theorem cuts_of_trod {H : Type} {enc : TypeId × Value → H} {W : World} {a : Option Addr} {len cap fuel : Nat} {x : DataW H × List MemPlace}
    (hf : DataW.trod enc Try.prog W 0 (fun _ => true) true fuel 41 [.slice a len cap] = some x) :
    ∃ T : Nat → Int × Int × Int, ((a = none ∧ len = 0 ∧ cap = 0) ∨ ∃ x, a = some x ∧ len ≤ cap ∧ ∀ i, i < len → W.cell? (x.add (i * 3)) = some (.int .i64 (T i).1) ∧ W.cell? (x.add (i * 3 + 1)) = some (.int .i64 (T i).2.1) ∧ W.cell? (x.add (i * 3 + 2)) = some (.int .i64 (T i).2.2)) ∧ (len ≤ cap ∧ cap ≤ 9223372036854775807) := by
  rcases Deep.open_slice Try.underlying41 hf with ⟨hcs, _⟩ | ⟨x, l, c, m, n, D, Pl, hcs, _, hl, hm, hmm, hx, hi⟩
  · simp at hcs
    obtain ⟨rfl, rfl, rfl⟩ := hcs
    exact ⟨fun _ => (0, 0, 0), .inl ⟨rfl, rfl, rfl⟩, by omega, by omega⟩
  · simp at hcs
    obtain ⟨rfl, rfl, rfl⟩ := hcs
    have hT : ∀ i, ∃ tr : Int × Int × Int, i < len → W.cell? (x.add (i * 3)) = some (.int .i64 tr.1) ∧ W.cell? (x.add (i * 3 + 1)) = some (.int .i64 tr.2.1) ∧ W.cell? (x.add (i * 3 + 2)) = some (.int .i64 tr.2.2) := by
      intro i
      by_cases hlt : i < len
      · obtain ⟨cs', hc, ht⟩ := hi i (by rw [hmm]; split <;> omega)
        rw [cellsT] at hc
        obtain ⟨_, hcl, hat⟩ := World.cells?_some hc
        obtain ⟨ys, m1, _, _, _, hylen, hel⟩ := DataW.trod_struct Try.underlying47 ht
        match cs', hcl with
        | [c0, c1, c2], _ =>
          have e0 : DataW.trod enc Try.prog W 0 (fun _ => true) true m1 3 (List.take (Try.prog.cellsOf 3) (List.drop 0 [c0, c1, c2])) = ys[0]? := hel 0 _ rfl
          have e1 : DataW.trod enc Try.prog W 0 (fun _ => true) true m1 3 (List.take (Try.prog.cellsOf 3) (List.drop 1 [c0, c1, c2])) = ys[1]? := hel 1 _ rfl
          have e2 : DataW.trod enc Try.prog W 0 (fun _ => true) true m1 3 (List.take (Try.prog.cellsOf 3) (List.drop 2 [c0, c1, c2])) = ys[2]? := hel 2 _ rfl
          have hl3 : ys.length = 3 := hylen
          rw [cellsI] at e0 e1 e2
          have e0 : DataW.trod enc Try.prog W 0 (fun _ => true) true m1 3 [c0] = ys[0]? := e0
          have e1 : DataW.trod enc Try.prog W 0 (fun _ => true) true m1 3 [c1] = ys[1]? := e1
          have e2 : DataW.trod enc Try.prog W 0 (fun _ => true) true m1 3 [c2] = ys[2]? := e2
          obtain ⟨n0, rfl⟩ := int_of e0 (List.getElem?_eq_getElem (by omega))
          obtain ⟨n1, rfl⟩ := int_of e1 (List.getElem?_eq_getElem (by omega))
          obtain ⟨n2, rfl⟩ := int_of e2 (List.getElem?_eq_getElem (by omega))
          refine ⟨(n0, n1, n2), fun _ => ⟨?_, ?_, ?_⟩⟩
          · have := hat 0 (by omega)
            simpa [Addr.add] using this
          · have := hat 1 (by omega)
            rw [← Go.Deep.add_add]; simpa using this
          · have := hat 2 (by omega)
            rw [← Go.Deep.add_add]; simpa using this
      · exact ⟨(0, 0, 0), fun h => absurd h hlt⟩
    obtain ⟨T, hT⟩ := Classical.axiomOfChoice hT
    exact ⟨T, .inr ⟨_, rfl, hl, hT⟩, hl, by unfold maxLen at hm; omega⟩

theorem watchSlices_row (a0 : Option Addr) (len0 cap0 : Nat) (T : Nat → Int × Int × Int) (a1 : Option Addr) (len1 cap1 : Nat) (z1 : List Int) (W : World)
    (w0 : (a0 = none ∧ len0 = 0 ∧ cap0 = 0) ∨ ∃ x, a0 = some x ∧ len0 ≤ cap0 ∧ ∀ i, i < len0 → W.cell? (x.add (i * 3)) = some (.int .i64 (T i).1) ∧ W.cell? (x.add (i * 3 + 1)) = some (.int .i64 (T i).2.1) ∧ W.cell? (x.add (i * 3 + 2)) = some (.int .i64 (T i).2.2))
    (y0 : len0 ≤ cap0 ∧ cap0 ≤ 9223372036854775807) (w1 : IsRow .u8 W a1 len1 cap1 z1) (y1 : len1 * 1 ≤ 140737488351232) :
    Calls Try.prog 4 #[.slice a0 len0 cap0, .slice a1 len1 cap1] W fun e w' => e = .returned (.bool true) ∧ Below W.heap.size W w' := by
  refine WSl.watchSlices a0 len0 cap0 T a1 len1 cap1 (z1.take len1) W w0 y0 ?_ (by omega)
  rcases w1 with ⟨rfl, rfl, rfl, rfl⟩ | ⟨x, rfl, hl, hm, hz, hc, _⟩
  · exact ⟨by simp, by omega, fun h => by omega⟩
  · refine ⟨by rw [List.length_take]; omega, by omega, fun _ => ⟨x, rfl, fun j hj => ?_⟩⟩
    rw [hc j (by omega)]
    rw [List.getD_eq_getElem?_getD, List.getD_eq_getElem?_getD, List.getElem?_take, if_pos hj]

set_option maxRecDepth 100000 in
theorem lifted (os : Os) (started : os.Started) (H : Type) (enc : TypeId × Value → H) :
    ReturnsInHanded {} Try.checked os 4 .any (Rows.watchSlicesSpec.pre6 enc Try.prog Try.f4 Rows.watchSlicesRow.domain false) (Rows.watchSlicesSpec.post enc Try.prog Try.f4 false true false false) := by
  refine returnsInHanded_of_change_sized (C := Try.checked) own started (by kernel_rfl) Try.func4
    (ChangeSpec.witness6 (enc := enc) (C := Try.checked) false ⟨#[], #[.slice none 0 0, .slice none 0 0], []⟩ 8 (by kernel_rfl) (by kernel_rfl) (by kernel_rfl) (by kernel_rfl)) ?_
  intro W base args ds gs before hval0 hW hcnd hsz0 _
  have hsz : (DataW.weightsEach Try.prog (Try.f4.params.toList ++ Rows.watchSlicesSpec.plain.varTypes Try.prog) (ds ++ gs)).all (· ≤ reachBytes) = true := hsz0
  have hval : ∀ (j : Nat) t v, Try.f4.params[j]? = some t → args[j]? = some v → Value.okWide Try.prog W .any base t v := hval0
  have hW' := hW
  obtain ⟨p, q, hA0, hV, rfl, hfz, hnd⟩ := hW
  have hA : DataW.TrodAll enc Try.prog W 0 (fun _ => true) true Try.f4.params.toList args.toList ds p := hA0
  rw [Try.params4] at hA hval hsz
  obtain ⟨v0, vs0, d0, ds0, p0, q0, hargs, rfl, rfl, h0, r0⟩ := trodAll_cons hA
  obtain ⟨v1, vs1, d1, ds1, p1, q1, rfl, rfl, rfl, h1, r1⟩ := trodAll_cons r0
  obtain ⟨rfl, rfl, rfl⟩ := trodAll_nil r1
  obtain rfl : args = #[v0, v1] := by cases args; simp_all
  obtain ⟨rfl, rfl⟩ := trodVars_none hV
  obtain ⟨a0, len0, cap0, rfl⟩ := okWide_slice Try.underlying41 (hval 0 41 v0 rfl rfl)
  have k0 := h0
  have lt0 : ∀ x ∈ p0, x.block < W.heap.size := by obtain ⟨m, hm⟩ := k0; exact DataW.trod_lt m _ _ _ hm
  obtain ⟨z0, w0, y0⟩ := (show ∃ T : Nat → Int × Int × Int, ((a0 = none ∧ len0 = 0 ∧ cap0 = 0) ∨ ∃ x, a0 = some x ∧ len0 ≤ cap0 ∧ ∀ i, i < len0 → W.cell? (x.add (i * 3)) = some (.int .i64 (T i).1) ∧ W.cell? (x.add (i * 3 + 1)) = some (.int .i64 (T i).2.1) ∧ W.cell? (x.add (i * 3 + 2)) = some (.int .i64 (T i).2.2)) ∧ (len0 ≤ cap0 ∧ cap0 ≤ 9223372036854775807) by
    obtain ⟨fuel, hf⟩ := h0
    exact cuts_of_trod hf)
  obtain ⟨a1, len1, cap1, rfl⟩ := okWide_slice Try.underlying22 (hval 1 22 v1 rfl rfl)
  have k1 := h1
  have lt1 : ∀ x ∈ p1, x.block < W.heap.size := by obtain ⟨m, hm⟩ := k1; exact DataW.trod_lt m _ _ _ hm
  obtain ⟨z1, w1⟩ : ∃ zs, IsRow .u8 W a1 len1 cap1 zs := by
    obtain ⟨fuel, hf⟩ := h1
    rcases open_ints Try.underlying22 Try.underlying5 (by kernel_rfl) hf with ⟨hcs, _⟩ | ⟨x, l, c, zs, hcs, _, hl, hm, hz, _, hcell, hwz⟩
    · simp [Value.cells] at hcs
      obtain ⟨rfl, rfl, rfl⟩ := hcs
      exact ⟨[], .inl ⟨rfl, rfl, rfl, rfl⟩⟩
    · simp [Value.cells] at hcs
      obtain ⟨rfl, rfl, rfl⟩ := hcs
      exact ⟨zs, .inr ⟨_, rfl, hl, hm, by simpa using hz, hcell, hwz⟩⟩
  have y1 : len1 * 1 ≤ 140737488351232 := PrintWords.sized_ints hsz (j := 1) (t := 22) rfl rfl Try.underlying22 Try.underlying5 (by kernel_rfl) (by kernel_rfl) h1
  clear hA0 hval0 hsz0 hsz
  refine (watchSlices_row a0 len0 cap0 z0 a1 len1 cap1 z1 W w0 y0 w1 y1).mono fun e W' ⟨he, bel⟩ => ?_
  subst he
  exact ⟨_, rfl, _, _, _, [], _, [], hW', trodAll_mk1 (shut_bool Try.underlying4 _), (trodAll_cons_mk (Below.trod laidOut (by kernel_rfl) (of_decide_eq_true (by kernel_rfl)) k0 bel lt0) (trodAll_cons_mk (Below.trod laidOut (by kernel_rfl) (of_decide_eq_true (by kernel_rfl)) k1 bel lt1) trodAll_mk0)), rfl, bel.frame _, fun h => by cases h⟩
theorem over : Rows.watchSlicesRow.holds Try.pinned (OpenSpec.ofChange Rows.watchSlicesSpec) :=
  OpenClaim.holds_of_wide 4 Try.f4 rfl rfl rfl rfl rfl rfl rfl ⟨rfl, rfl, rfl, rfl, rfl⟩ rfl rfl rfl rfl rfl (by kernel_rfl) Try.func4 (by kernel_rfl)
    (of_decide_eq_true (by kernel_rfl)) (by unfold Func.isWrapper; first | (rw [if_pos (by decide +kernel)]; kernel_rfl) | (rw [if_neg (by decide +kernel)]; exact ⟨rfl, rfl⟩))
    (fun os started H enc _ => lifted os started H enc)
theorem proved : Rows.WatchSlicesSaid := over
#print axioms proved
end Go.Proofs.Ytghdeoeajbnfkaa.watchSlices
namespace Go.Proofs.Ytghdeoeajbnfkaa
theorem watchSlices_holds : Rows.WatchSlicesSaid := watchSlices.proved
end Go.Proofs.Ytghdeoeajbnfkaa
