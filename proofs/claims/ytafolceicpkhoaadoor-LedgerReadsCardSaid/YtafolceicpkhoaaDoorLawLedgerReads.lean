/- ReadEntries returns what the document's reference returns, at every string: the row and its card. -/
import Derived.Test.YtafolceicpkhoaaDoorCardL
import Derived.Stop.LaidErr
namespace Go.Proofs.YtafolceicpkhoaaDoor.Pol
set_option linter.unusedVariables false
open Go Go.ChangeShapes Go.WideShapes Go.ChangeAt Go.RowKit Go.Joins Go.Proofs.YtafolceicpkhoaaDoorW.PrintWords
set_option linter.unusedSimpArgs false
abbrev laid4 : List (String × DataW Unit) := Rows.ledgerReadsRow.laid
theorem iface_of_reads {W : World} {name nm : String} {d : DataW Unit} {g : Nat} {t : TypeId} {ms : Array (String × TypeId)}
    (hg : Tryd.prog.globalNamed name = some g) (hty : (Tryd.prog.globals[g]?).map (·.type) = some t) (hi : Tryd.prog.underlying t = some (.interface ms))
    (h : Lib.VarReads Tryd.prog W name (.iface nm d)) : ∃ u v, W.cell? ⟨g, 0, none⟩ = some (.iface u v) := by
  obtain ⟨g', t', cs, fuel, p, hg', ht', hvar, hd⟩ := h
  obtain rfl := Option.some.inj (hg.symm.trans hg')
  obtain rfl := Option.some.inj (hty.symm.trans ht')
  obtain ⟨f1, u, v, hcs, hn, h1⟩ := iface_of_trod hi hd
  have hc0 := World.var?_cell hg hvar 0
  rw [Array.eq_one_of_toList hcs] at hc0
  exact ⟨u, v, by simpa using hc0⟩
theorem twelveAre : ∀ (j : Nat) (x : ByteArray), (ByteArray.empty :: elevens)[j]? = some x → ∃ bs : List UInt8, ([] :: ewds)[j]? = some bs ∧ x = (⟨bs.toArray⟩ : ByteArray) := by
  intro j x h
  cases j with
  | zero => exact ⟨[], rfl, (Option.some.inj h).symm⟩
  | succ j =>
    have h' : elevens[j]? = some x := h
    unfold elevens at h'
    rw [List.getElem?_map] at h'
    obtain ⟨bs, hb, hx⟩ := Option.map_eq_some_iff.1 h'
    exact ⟨bs, hb, hx.symm⟩
theorem old_block {w : World} {b : Nat} {v : Value} {o : Nat} (h : w.cell? ⟨b, o, none⟩ = some v) : b < w.heap.size := by simpa using World.block_lt_of_cell? w _ h
theorem words12_of_reads {W : World} (h : Lib.VarReads Tryd.prog W "corncrib/cornref1.entryWords" Rows.laid_corncrib_cornref1_entryWords) : Words12 W := by
  obtain ⟨g, t, cs, fuel, p, hg, ht, hvar, hd⟩ := h
  obtain rfl := Option.some.inj ((show Tryd.prog.globalNamed "corncrib/cornref1.entryWords" = some 0 by kernel_rfl).symm.trans hg)
  obtain rfl := Option.some.inj ((show (Tryd.prog.globals[0]?).map (·.type) = some 46 by kernel_rfl).symm.trans ht)
  obtain ⟨a, c, hcs, _, hel⟩ := open_row Tryd.underlying46 (by kernel_rfl) hd
  have hc0 := World.var?_cell hg hvar 0
  rw [Array.eq_one_of_toList hcs] at hc0
  have one : ∀ (i : Nat) (bs : List UInt8), ((([] : List UInt8) :: ewds).map fun l => (.lit (.string l) : DataW Unit))[i]? = some (.lit (.string bs)) → W.cell? (a.add i) = some (.string ⟨bs.toArray⟩) := fun i bs hi => by
    obtain ⟨v, n, q, hv, htr⟩ := hel i _ hi
    obtain ⟨s, hs, hx, _⟩ := DataW.trod_string Tryd.underlying9 htr
    have e1 : v = .string s := by simpa using hs
    have e2 : s.data.toList = bs := by
      have := (Prod.mk.inj hx).1
      injection this with this
      injection this with this
      exact this.symm
    rw [hv, e1, ← e2]
  obtain ⟨b, o, sp⟩ := a
  have hspot : sp = none := by
    have h1 := one 0 _ rfl
    simp only [Addr.add] at h1
    have := World.cell?_spot h1
    simpa using this
  subst hspot
  have hc0' : W.cell? ⟨0, 0, none⟩ = some (.slice (some ⟨b, o, none⟩) 12 c) := by simpa using hc0
  refine ⟨b, o, c, hc0', ?_, fun j x hj => ?_⟩
  · have h1 := one 1 _ rfl
    exact old_block (o := o + 1) (by simpa [Addr.add] using h1)
  · obtain ⟨bs, h1, rfl⟩ := twelveAre j x hj
    have h2 := one j bs (by rw [List.getElem?_map, h1]; rfl)
    rw [← h2]
    by_cases h0 : j = 0
    · subst h0; simp [Addr.add]
    · simp [Addr.add, h0]
def LawVars (w : World) : Prop := (Tabs w ∧ Errs w) ∧ Words12 w
theorem of_laid {W : World} (h : laidMetH Tryd.prog laid4 W) : LawVars W := by
  rw [MakeChecks.laidMetH_plain _ _ _ (by kernel_rfl)] at h
  exact ⟨⟨tabs_of_reads (Lib.laidMet.reads h (.tail _ (.tail _ (.tail _ (.tail _ (.tail _ (.tail _ (.tail _ (.head _))))))))) (Lib.laidMet.reads h (.tail _ (.tail _ (.head _)))),
    { syn := iface_of_reads (g := 5) (by kernel_rfl) (by kernel_rfl) Tryd.underlying43 (Lib.laidMet.reads h (.tail _ (.tail _ (.tail _ (.tail _ (.tail _ (.head _)))))))
      ran := iface_of_reads (g := 6) (by kernel_rfl) (by kernel_rfl) Tryd.underlying43 (Lib.laidMet.reads h (.tail _ (.tail _ (.tail _ (.tail _ (.head _)))))) }⟩,
    words12_of_reads (Lib.laidMet.reads h (.tail _ (.tail _ (.tail _ (.tail _ (.tail _ (.tail _ (.tail _ (.tail _ (.head _))))))))))⟩
theorem ledgerReadsX (s : ByteArray) (w : World) (h : LawVars w) (mx : Int) (hx : w.cell? ⟨3, 0, none⟩ = some (.int .i64 mx)) :
    Calls Tryd.prog 4 #[.string s] w fun e w' => e = .returned (.bool true) ∧ Below w.heap.size w w' :=
  ledgerReads s w ⟨h.1.1, h.1.2, ⟨mx, hx⟩⟩ h.2
theorem door_met_ledgerReads (os : Os) (args : Array Value) : laidMetH Tryd.prog laid4 ((World.laidAll Tryd.prog os laid4).forCall (fun _ _ => 0) ⟨#[], args, []⟩).memory := by
  rw [MakeChecks.laidMetH_plain _ _ _ (by kernel_rfl)]
  exact laidMet_laidAll _ (by kernel_rfl) (by kernel_rfl)
set_option maxRecDepth 100000 in
theorem lifted_ledgerReads (os : Os) (started : os.Started) (H : Type) (enc : TypeId × Value → H) :
    ReturnsInHanded {} Tryd.checked os 4 .any (fun w args => (Rows.ledgerReadsSpec.pre enc Tryd.prog Tryd.f4 [] false w args ∧ laidMetH Tryd.prog laid4 w) ∧ sizedMet enc Tryd.prog Tryd.f4 (OpenSpec.ofChange Rows.ledgerReadsSpec) false w args)
      (Rows.ledgerReadsSpec.post enc Tryd.prog Tryd.f4 false true false false) := by
  refine handed_open (C := Tryd.checked) own started (by kernel_rfl) Tryd.func4
    (ChangeSpec.witness_shaped (enc := enc) (C := Tryd.checked) (os := os) (X := fun w _ => laidMetH Tryd.prog laid4 w) false (World.laidAll Tryd.prog os laid4) #[.string ByteArray.empty] 8 (World.laidAll_os _ _ _) (World.shaped_of_ZipB (by kernel_rfl) (by kernel_rfl)) (by kernel_rfl) (by kernel_rfl) (by kernel_rfl) (door_met_ledgerReads os _)) ?_
  intro W base args ds gs before hval0 hW hL hO
  have hval : ∀ (j : Nat) t v, Tryd.f4.params[j]? = some t → args[j]? = some v → Value.okWide Tryd.prog W .any base t v := hval0
  have hW' := hW
  obtain ⟨p, q, hA0, hV, rfl, hfz, hnd⟩ := hW
  have hA : DataW.TrodAll enc Tryd.prog W 0 (fun _ => true) true Tryd.f4.params.toList args.toList ds p := hA0
  rw [Tryd.params4] at hA hval
  obtain ⟨v0, vs0, d0, ds0, p0, q0, hargs, rfl, rfl, h0, r0⟩ := trodAll_cons hA
  obtain ⟨rfl, rfl, rfl⟩ := trodAll_nil r0
  obtain rfl : args = #[v0] := by cases args; simp_all
  obtain ⟨rfl, rfl⟩ := trodVars_none hV
  obtain ⟨a0, rfl, rfl, rfl, y0⟩ := Go.ChangeMaps.open_string Tryd.underlying9 (hval 0 9 v0 rfl rfl) h0
  clear hA0 hval0
  obtain ⟨mx, hx⟩ := maxLen_of_open hO
  refine (ledgerReadsX a0 W (of_laid hL) mx hx).mono fun e W' ⟨he, bel⟩ => ?_
  subst he
  exact ⟨_, rfl, _, _, _, [], _, [], hW', trodAll_mk1 (shut_bool Tryd.underlying4 _), (trodAll_cons_mk (Go.ChangeMaps.shut_string Tryd.underlying9 y0) trodAll_mk0), rfl, bel.frame _, fun h => by cases h⟩
theorem over_ledgerReads : Rows.ledgerReadsRow.holds Tryd.pinned (OpenSpec.ofChange Rows.ledgerReadsSpec) :=
  OpenClaim.holds_of_wide 4 Tryd.f4 rfl rfl rfl rfl rfl rfl rfl ⟨rfl, rfl, rfl, rfl, rfl⟩ rfl rfl rfl rfl rfl (by kernel_rfl) Tryd.func4 (by kernel_rfl)
    (of_decide_eq_true (by kernel_rfl)) (by unfold Func.isWrapper; first | (rw [if_pos (by decide +kernel)]; kernel_rfl) | (rw [if_neg (by decide +kernel)]; exact ⟨rfl, rfl⟩))
    (fun os started H enc _ => lifted_ledgerReads os started H enc)
theorem ledgerReads_card : Rows.LedgerReadsCardSaid :=
  Claim7.holds_tied_plain_at .later [] [.data, .data, .data, .data, .sentinel, .sentinel, .listed, .data, .widerDeep, .pinned] true (true, "7b9b86bd0e4e46bf34203da9d37eab13863e2ab1447c9e3df7d3f2397a491f99") true
    over_ledgerReads (fun _ h => by cases h) (by kernel_rfl) (fun _ h => by cases h) ledgerReads_row_tie rfl ⟨rfl, rfl⟩ (by kernel_rfl) rfl
    (fun f fn hf hfn => by
      obtain rfl : f = 4 := Option.some.inj ((show Tryd.prog.funcNamed "corncrib/cornlaw1.LedgerReads" = some 4 by kernel_rfl).symm.trans hf) |>.symm
      obtain rfl : fn = Tryd.f4 := (Option.some.inj (Tryd.func4.symm.trans hfn)).symm
      exact ⟨by kernel_rfl, fun j t ht => by
        rw [Tryd.params4] at ht
        have hall : ∀ t ∈ ([9] : List TypeId), Tryd.prog.wantsStandIn t = false := by
          intro t ht
          simp only [List.mem_cons, List.mem_nil_iff, or_false] at ht
          rcases ht with rfl <;> kernel_rfl
        exact hall t (by simpa using Array.mem_of_getElem? ht)⟩)
    (by kernel_rfl)
#print axioms ledgerReads_card
end Go.Proofs.YtafolceicpkhoaaDoor.Pol
namespace Go.Proofs.YtafolceicpkhoaaDoor
theorem ledgerReads_holds : Rows.LedgerReadsCardSaid := Pol.ledgerReads_card
end Go.Proofs.YtafolceicpkhoaaDoor
