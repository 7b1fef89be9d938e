/- Cards of seat T.D: from a row's condition on the variables to Tabs, Words, MaxLen. -/
import Derived.Test.YtnikkejfpnnmcaaDoorRows
import Derived.Test.YtnikkejfpnnmcaaDoorCards
import Derived.Test.YtnikkejfpnnmcaaDoorTie
import Derived.Test.YtnikkejfpnnmcaaDoorPolText
import Derived.ProofKit
import Derived.OpenShut
import Derived.LaidMore
import Derived.MakeChecks
import Derived.Stop.Joined
import Derived.SevenTiedAt
import Derived.ChangeOld
import Derived.Lay
import Derived.Shelf.Vars
import Derived.Lib.SmallJoins
namespace Go.Proofs.YtnikkejfpnnmcaaDoor.Pol
set_option linter.unusedVariables false
open Go Go.ChangeShapes Go.WideShapes Go.ChangeAt Go.RowKit Go.Joins Go.Proofs.YtnikkejfpnnmcaaDoorW.PrintWords
set_option linter.unusedSimpArgs false

theorem own : ownKnob Tryd.prog.godebug = none := by kernel_rfl
theorem tab_of_reads {W : World} {name : String} {k : IntKind} {zs : List Int} {g : Nat} {t e : TypeId} {n : Nat}
    (hg : Tryd.prog.globalNamed name = some g) (hty : (Tryd.prog.globals[g]?).map (·.type) = some t) (ht : Tryd.prog.underlying t = some (.array n e)) (he : Tryd.prog.underlying e = some (.int k)) (hce : Tryd.prog.cellsOf e = 1) (hct : Tryd.prog.cellsOf t = n)
    (h : Lib.VarReads Tryd.prog W name (Lib.tabData k zs)) : Lib.TabIs Tryd.prog W name k zs := by
  obtain ⟨g', t', cs, fuel, p, hg', ht', hvar, hd⟩ := h
  obtain rfl := Option.some.inj (hg.symm.trans hg')
  obtain rfl := Option.some.inj (hty.symm.trans ht')
  unfold Lib.TabIs
  rw [hvar, ← Lib.cells_of_tab ht he hce hct hd]

theorem words_of_reads {W : World} (h : Lib.VarReads Tryd.prog W "corncrib/cornref1.policyWords" Rows.laid_corncrib_cornref1_policyWords) : ∃ b o c, 0 < W.heap.size ∧ W.cell? ⟨0, 0, none⟩ = some (.slice (some ⟨b, o, none⟩) 6 c) ∧ b < W.heap.size ∧ ∀ j, j < 5 → W.cell? ⟨b, o + (j + 1), none⟩ = some (.string (wd j)) := by
  obtain ⟨g, t, cs, fuel, p, hg, ht, hvar, hd⟩ := h
  obtain rfl := Option.some.inj ((show Tryd.prog.globalNamed "corncrib/cornref1.policyWords" = some 0 by kernel_rfl).symm.trans hg)
  obtain rfl := Option.some.inj ((show (Tryd.prog.globals[0]?).map (·.type) = some 39 by kernel_rfl).symm.trans ht)
  obtain ⟨a, c, hcs, _, hel⟩ := open_row Tryd.underlying39 (by kernel_rfl) hd
  have hc0 := World.var?_cell hg hvar 0
  rw [Array.eq_one_of_toList hcs] at hc0
  have one : ∀ (i : Nat) (bs : List UInt8), ([.lit (.string []), .lit (.string [101, 120, 97, 99, 116]), .lit (.string [115, 116, 101, 112, 115]), .lit (.string [104, 97, 108, 102]), .lit (.string [100, 111, 117, 98, 108, 101]), .lit (.string [115, 111, 114, 116, 101, 100])] : List (DataW Unit))[i]? = some (.lit (.string bs)) → W.cell? (a.add i) = some (.string ⟨bs.toArray⟩) := fun i bs hi => by
    obtain ⟨v, n, q, hv, htr⟩ := hel i _ hi
    obtain ⟨s, hs, hx, _⟩ := DataW.trod_string Tryd.underlying9 htr
    have e1 : v = .string s := by simpa using hs
    have e2 : s.data.toList = bs := by
      have := (Prod.mk.inj hx).1
      injection this with this
      injection this with this
      exact this.symm
    rw [hv, e1, ← e2]
  have hget : ∀ j, j < 5 → W.cell? (a.add (j + 1)) = some (.string (wd j)) := by
    intro j hj
    have : j = 0 ∨ j = 1 ∨ j = 2 ∨ j = 3 ∨ j = 4 := by omega
    rcases this with rfl | rfl | rfl | rfl | rfl
    · exact one 1 _ rfl
    · exact one 2 _ rfl
    · exact one 3 _ rfl
    · exact one 4 _ rfl
    · exact one 5 _ rfl
  obtain ⟨b, o, sp⟩ := a
  have hspot : sp = none := by
    have h1 := one 0 _ rfl
    simp only [Addr.add] at h1
    have := World.cell?_spot h1
    simpa using this
  subst hspot
  have hc0' : W.cell? ⟨0, 0, none⟩ = some (.slice (some ⟨b, o, none⟩) 6 c) := by simpa using hc0
  refine ⟨b, o, c, old_block hc0', hc0', ?_, fun j hj => ?_⟩
  · have h1 := hget 0 (by omega)
    exact old_block (o := o + 1) (by simpa [Addr.add] using h1)
  · have h1 := hget j hj
    simpa [Addr.add] using h1

theorem tabs_of_reads {W : World} (h1 : Lib.VarReads Tryd.prog W "strings.asciiSpace" Rows.laid_strings_asciiSpace) (h2 : Lib.VarReads Tryd.prog W "internal/strconv.uint64pow10" Rows.laid_internal_strconv_uint64pow10) : Tabs W where
  asp := tab_of_reads gAsp (by kernel_rfl) Tryd.underlying66 Tryd.underlying5 (by kernel_rfl) (by kernel_rfl) ((show (Rows.laid_strings_asciiSpace : DataW Unit) = Lib.tabData .u8 Lib.asciiSpaceTab by kernel_rfl) ▸ h1)
  pow := tab_of_reads gPow (by kernel_rfl) Tryd.underlying132 Tryd.underlying75 (by kernel_rfl) (by kernel_rfl) ((show (Rows.laid_internal_strconv_uint64pow10 : DataW Unit) = Lib.tabData .u64 Lib.pow10Tab by kernel_rfl) ▸ h2)

theorem cellsP : Tryd.prog.cellsOf 23 = 3 := by kernel_rfl
/-- 'internal/bytealg.MaxLen' holds some integer. -/
theorem maxLen_of_open {W : World} (h : W.ShapedOpen Tryd.prog) : ∃ m, W.cell? ⟨4, 0, none⟩ = some (.int .i64 m) :=
  cell_of_shapedOpen_int (t := 3) (zero := #[.int .i64 0]) h (of_decide_eq_true (by kernel_rfl)) (by kernel_rfl) rfl (by kernel_rfl) (by kernel_rfl) Tryd.underlying3

/-- A row's run, with the world's shape handed to its contract. -/
theorem handed_open {H : Type} {enc : TypeId × Value → H} {a : Assume} {C : Checked} {os : Os} {f : FuncId} {fn : Func} {s : ChangeSpec} {laid : List (String × DataW Unit)}
    (own : ownKnob C.prog.godebug = none) (started : os.Started) (noInit : C.prog.inits.idxOf? f = none) (hfn : C.prog.funcs[f]? = some fn)
    (witness : ∃ (w : World) (tape : Tape) (i : Input), w.os = os ∧ (w.forCall tape i).Shaped C.prog ∧ i.vars = [] ∧ Input.okWide C.prog (w.forCall tape i) .any w.heap.size f i ∧
      ((s.pre enc C.prog fn [] false (w.forCall tape i).memory i.args ∧ laidMetH C.prog laid (w.forCall tape i).memory) ∧ sizedMet enc C.prog fn (OpenSpec.ofChange s) false (w.forCall tape i).memory i.args) ∧ a.holds C.prog (lone (Frame.enter C.prog f i.args .normal) [] (w.forCall tape i)))
    (contract : ∀ (W : World) (base : Nat) (args : Array Value) (ds gs : List (DataW H)) (before : List MemPlace),
      (∀ (j : Nat) t v, fn.params[j]? = some t → args[j]? = some v → Value.okWide C.prog W .any base t v) →
      DataW.Whole enc C.prog fn.params.toList s.vars false W args.toList ds gs before →
      laidMetH C.prog laid W → W.ShapedOpen C.prog →
      Calls C.prog f args W fun e W' => ∃ v, e = .returned v ∧ s.post enc C.prog fn false true false false W args v W') :
    ReturnsInHanded a C os f .any (fun w args => (s.pre enc C.prog fn [] false w args ∧ laidMetH C.prog laid w) ∧ sizedMet enc C.prog fn (OpenSpec.ofChange s) false w args) (s.post enc C.prog fn false true false false) := by
  refine returnsInHanded_of_calls own started noInit witness ?_
  intro w tape i _ hshape _ hfit hpre _
  obtain ⟨_, _, _, fn', hfn', _, _, _, _, hv⟩ := hfit
  cases Option.some.inj (hfn'.symm.trans hfn)
  obtain ⟨⟨⟨ds, gs, before, hw, _⟩, hl⟩, _⟩ := hpre
  refine (contract (w.forCall tape i) w.heap.size i.args ds gs before hv (DataW.Whole.of_heap (w' := w.forCall tape i) (by rfl) hw) (hl.of_heap (by rfl)) hshape).mono ?_
  rintro e W' ⟨v, rfl, h⟩
  exact ChangeSpec.post_blind h

end Go.Proofs.YtnikkejfpnnmcaaDoor.Pol
