/- strconv.ParseUint(s, 16, 8) of two octets, with the public package's errors. -/
import Derived.Test.YtnikkejfpnnmcaaDoorHexUint
import Derived.Lib.AtoiErrMem
namespace Go.Proofs.YtnikkejfpnnmcaaDoor.Quo
set_option linter.unusedVariables false
set_option linter.unusedSimpArgs false
open Go.RowKit Go.Proofs.YtnikkejfpnnmcaaDoorW.PrintWords Go.Proofs.YtnikkejfpnnmcaaDoorW.PrintLast Go.Proofs.YtnikkejfpnnmcaaDoorW.PrintMore Go.Proofs.YtnikkejfpnnmcaaDoor.Bld

/-- What the variable ErrSyntax holds: some error. -/
def ErrVar (w : World) : Prop := ∃ ev, w.cell? ⟨5, 0, none⟩ = some ev ∧ (ev = .nilIface ∨ ∃ te pe, ev = .iface te pe)
theorem ErrVar.below {w w' : World} (h : ErrVar w) (hb : Below w.heap.size w w') : ErrVar w' := by
  obtain ⟨ev, h1, h2⟩ := h
  refine ⟨ev, ?_, h2⟩
  rw [← h1]
  exact Below.cell hb (p := ⟨5, 0, none⟩) (by simpa using World.block_lt_of_cell? w _ h1)

theorem notNil (w : World) (t : TypeId) (v : Value) : (binOp .neq 60 (.iface t v) .nilIface).run Tryd.prog w = .ok (.bool true) w := by simp [go_sem]

set_option maxHeartbeats 4000000 in
set_option maxRecDepth 100000 in
theorem parseHex (t : ByteArray) (hne : t.size = 2) (w : World) (hE : ErrVar w) :
    Calls Tryd.prog 43 #[.string t, .int .i64 16, .int .i64 8] w fun e w' => (∃ v er, e = .returned (.tuple #[.int .u64 v, er]) ∧ ((er = .nilIface ∧ hexRun t.data.toList 0 = some v) ∨ (hexRun t.data.toList 0 = none ∧ ∃ te pe, er = .iface te pe))) ∧ Below w.heap.size w w' := by
  have hin := parseHexIn t hne w
  have hB := Aside0.mk (show Below w.heap.size w (Lib.bytesWorld w 5 t) from Lib.bytesWorld_below _ _ _)
  cases hr : hexRun t.data.toList 0 with
  | some v =>
    rw [hr] at hin
    unfold hexEnd at hin
    have HI := Aside0.mk hin
    clear hin
    go_enter Tryd.func43, Tryd.ntmps43
    go_wp2_with fail
    refine HI.out.mono ?_
    rintro e w1 ⟨rfl, rfl⟩
    go_wp2
    go_ret2
    exact ⟨⟨v, .nilIface, rfl, .inl ⟨rfl, rfl⟩⟩, hB.out⟩
  | none =>
    rw [hr] at hin
    unfold hexEnd at hin
    have HI := Aside0.mk hin
    obtain ⟨ev, hev, hev2⟩ := hE.below hB.out
    have HV := Aside0.mk (Tryd.strconv_toError_syntax { data := #[80, 97, 114, 115, 101, 85, 105, 110, 116] } t 16 8 ev _ (by omega) hev hev2)
    clear hin hev
    go_enter Tryd.func43, Tryd.ntmps43
    go_wp2_with fail
    refine HI.out.mono ?_
    rintro e w1 ⟨rfl, rfl⟩
    go_wp2_with fail
    refine HV.out.mono ?_
    rintro e w2 ⟨N, rfl, h1, h2, h3⟩
    have H3 := Aside0.mk h3
    clear h1 h2 h3
    go_wp2
    go_ret2
    exact ⟨⟨0, _, rfl, .inr ⟨by first | trivial | rfl, _, _, rfl⟩⟩, hB.out.trans (H3.out.mono hB.out.size)⟩
end Go.Proofs.YtnikkejfpnnmcaaDoor.Quo
