/- What EntriesText writes ReadEntries reads, for every list of entries: the row and its card. -/
import Derived.Test.YtafolceicpkhoaaDoorCardL
import Derived.Stop.LaidErr
import Derived.Deep.Slices
import Derived.SizedLaws
namespace Go.Proofs.YtafolceicpkhoaaDoor.Pol
set_option linter.unusedVariables false
open Go Go.ChangeShapes Go.WideShapes Go.ChangeAt Go.RowKit Go.Joins Go.Proofs.YtafolceicpkhoaaDoorW.PrintWords
set_option linter.unusedSimpArgs false
abbrev laid4 : List (String × DataW Unit) := Rows.ledgerRoundRow.laid
theorem iface_of_reads {W : World} {name nm : String} {d : DataW Unit} {g : Nat} {t : TypeId} {ms : Array (String × TypeId)}
    (hg : Tryd.prog.globalNamed name = some g) (hty : (Tryd.prog.globals[g]?).map (·.type) = some t) (hi : Tryd.prog.underlying t = some (.interface ms))
    (h : Lib.VarReads Tryd.prog W name (.iface nm d)) : ∃ u v, W.cell? ⟨g, 0, none⟩ = some (.iface u v) := by
  obtain ⟨g', t', cs, fuel, p, hg', ht', hvar, hd⟩ := h
  obtain rfl := Option.some.inj (hg.symm.trans hg')
  obtain rfl := Option.some.inj (hty.symm.trans ht')
  obtain ⟨f1, u, v, hcs, hn, h1⟩ := iface_of_trod hi hd
  have hc0 := World.var?_cell hg hvar 0
  rw [Array.eq_one_of_toList hcs] at hc0
  exact ⟨u, v, by simpa using hc0⟩
theorem laidOut : laidOutB Tryd.prog = true := by kernel_rfl
theorem cellsE : Tryd.prog.cellsOf 31 = 6 := by kernel_rfl
theorem cellsI : Tryd.prog.cellsOf 3 = 1 := by kernel_rfl
def LawVars (w : World) : Prop := Tabs w ∧ Errs w
theorem of_laid {W : World} (h : laidMetH Tryd.prog laid4 W) : LawVars W := by
  rw [MakeChecks.laidMetH_plain _ _ _ (by kernel_rfl)] at h
  exact ⟨tabs_of_reads (Lib.laidMet.reads h (.tail _ (.tail _ (.tail _ (.tail _ (.tail _ (.tail _ (.tail _ (.head _))))))))) (Lib.laidMet.reads h (.tail _ (.tail _ (.head _)))),
    { syn := iface_of_reads (g := 5) (by kernel_rfl) (by kernel_rfl) Tryd.underlying43 (Lib.laidMet.reads h (.tail _ (.tail _ (.tail _ (.tail _ (.tail _ (.head _)))))))
      ran := iface_of_reads (g := 6) (by kernel_rfl) (by kernel_rfl) Tryd.underlying43 (Lib.laidMet.reads h (.tail _ (.tail _ (.tail _ (.tail _ (.head _)))))) }⟩
theorem six_of {l : List Value} (h : l.length = 6) : ∃ c0 c1 c2 c3 c4 c5, l = [c0, c1, c2, c3, c4, c5] := by
  match l, h with
  | [c0, c1, c2, c3, c4, c5], _ => exact ⟨c0, c1, c2, c3, c4, c5, rfl⟩
theorem int_of {H : Type} {enc : TypeId × Value → H} {W : World} {m : Nat} {c : Value} {y : Option (DataW H × List MemPlace)} {z : DataW H × List MemPlace} (h : DataW.trod enc Tryd.prog W 0 (fun _ => true) true m 3 [c] = y) (h2 : y = some z) : ∃ n, c = .int .i64 n := by
  obtain ⟨n, hn, _⟩ := DataW.trod_int Tryd.underlying3 (h.trans h2)
  exact ⟨n, by simpa using hn⟩
theorem ents_of_trod {H : Type} {enc : TypeId × Value → H} {W : World} {a : Option Addr} {len cap fuel : Nat} {x : DataW H × List MemPlace}
    (hf : DataW.trod enc Tryd.prog W 0 (fun _ => true) true fuel 22 [.slice a len cap] = some x) : ∃ xs : List Ent, Kd.C entK W a len xs := by
  rcases Deep.open_slice Tryd.underlying22 hf with ⟨hcs, _⟩ | ⟨x, l, c, m, n, D, Pl, hcs, _, hl, hm, hmm, hx, hi⟩
  · simp at hcs
    obtain ⟨rfl, rfl, rfl⟩ := hcs
    exact ⟨[], Kd.C_nil _ _⟩
  · simp at hcs
    obtain ⟨rfl, rfl, rfl⟩ := hcs
    have hT : ∀ i, ∃ y : Ent, i < len → ∀ j v, y.vals[j]? = some v → W.cell? (x.add (i * 6 + j)) = some v := by
      intro i
      by_cases hlt : i < len
      · obtain ⟨cs', hc, ht⟩ := hi i (by rw [hmm]; split <;> omega)
        rw [cellsE] at hc
        obtain ⟨_, hcl, hat⟩ := World.cells?_some hc
        obtain ⟨ys, m1, _, _, _, hylen, hel⟩ := DataW.trod_struct Tryd.underlying31 ht
        obtain ⟨c0, c1, c2, c3, c4, c5, rfl⟩ := six_of hcl
        have e0 : DataW.trod enc Tryd.prog W 0 (fun _ => true) true m1 3 (List.take (Tryd.prog.cellsOf 3) (List.drop 0 [c0, c1, c2, c3, c4, c5])) = ys[0]? := hel 0 _ rfl
        have e1 : DataW.trod enc Tryd.prog W 0 (fun _ => true) true m1 3 (List.take (Tryd.prog.cellsOf 3) (List.drop 1 [c0, c1, c2, c3, c4, c5])) = ys[1]? := hel 1 _ rfl
        have e2 : DataW.trod enc Tryd.prog W 0 (fun _ => true) true m1 3 (List.take (Tryd.prog.cellsOf 3) (List.drop 2 [c0, c1, c2, c3, c4, c5])) = ys[2]? := hel 2 _ rfl
        have e3 : DataW.trod enc Tryd.prog W 0 (fun _ => true) true m1 3 (List.take (Tryd.prog.cellsOf 3) (List.drop 3 [c0, c1, c2, c3, c4, c5])) = ys[3]? := hel 3 _ rfl
        have e4 : DataW.trod enc Tryd.prog W 0 (fun _ => true) true m1 3 (List.take (Tryd.prog.cellsOf 3) (List.drop 4 [c0, c1, c2, c3, c4, c5])) = ys[4]? := hel 4 _ rfl
        have e5 : DataW.trod enc Tryd.prog W 0 (fun _ => true) true m1 3 (List.take (Tryd.prog.cellsOf 3) (List.drop 5 [c0, c1, c2, c3, c4, c5])) = ys[5]? := hel 5 _ rfl
        have hl6 : ys.length = 6 := hylen
        rw [cellsI] at e0 e1 e2 e3 e4 e5
        have e0 : DataW.trod enc Tryd.prog W 0 (fun _ => true) true m1 3 [c0] = ys[0]? := e0
        have e1 : DataW.trod enc Tryd.prog W 0 (fun _ => true) true m1 3 [c1] = ys[1]? := e1
        have e2 : DataW.trod enc Tryd.prog W 0 (fun _ => true) true m1 3 [c2] = ys[2]? := e2
        have e3 : DataW.trod enc Tryd.prog W 0 (fun _ => true) true m1 3 [c3] = ys[3]? := e3
        have e4 : DataW.trod enc Tryd.prog W 0 (fun _ => true) true m1 3 [c4] = ys[4]? := e4
        have e5 : DataW.trod enc Tryd.prog W 0 (fun _ => true) true m1 3 [c5] = ys[5]? := e5
        obtain ⟨n0, rfl⟩ := int_of e0 (List.getElem?_eq_getElem (by omega))
        obtain ⟨n1, rfl⟩ := int_of e1 (List.getElem?_eq_getElem (by omega))
        obtain ⟨n2, rfl⟩ := int_of e2 (List.getElem?_eq_getElem (by omega))
        obtain ⟨n3, rfl⟩ := int_of e3 (List.getElem?_eq_getElem (by omega))
        obtain ⟨n4, rfl⟩ := int_of e4 (List.getElem?_eq_getElem (by omega))
        obtain ⟨n5, rfl⟩ := int_of e5 (List.getElem?_eq_getElem (by omega))
        refine ⟨⟨n0, n1, n2, n3, n4, n5⟩, fun _ j v hv => ?_⟩
        have hj : j < 6 := (List.getElem?_eq_some_iff.1 hv).1
        have h9 := hat j (by simpa using hj)
        rw [← Go.Deep.add_add, h9]
        have : j = 0 ∨ j = 1 ∨ j = 2 ∨ j = 3 ∨ j = 4 ∨ j = 5 := by omega
        rcases this with rfl | rfl | rfl | rfl | rfl | rfl <;> exact hv
      · exact ⟨⟨0, 0, 0, 0, 0, 0⟩, fun h => absurd h hlt⟩
    have ⟨T, hT2⟩ := Classical.axiomOfChoice hT
    refine ⟨(List.range len).map T, by simp, by unfold maxLen at hm; omega, fun _ => ⟨x, rfl, fun j p hp => ?_⟩⟩
    have hj : j < len := by have := (List.getElem?_eq_some_iff.1 hp).1; simpa using this
    have e : p = T j := by
      rw [List.getElem?_map, List.getElem?_range hj] at hp
      simpa using hp.symm
    subst e
    exact ⟨(T j).vals, rfl, rfl, fun i u hu => hT2 j hj i u hu⟩
theorem ledgerRoundX (A : Option Addr) (n c : Nat) (xs : List Ent) (w : World) (hr : Kd.C entK w A n xs) (h : LawVars w) (mx : Int) (hx : w.cell? ⟨3, 0, none⟩ = some (.int .i64 mx)) :
    Calls Tryd.prog 3 #[.slice A n c] w fun e w' => e = .returned (.bool true) ∧ Below w.heap.size w w' :=
  ledgerRound A n c xs w hr ⟨h.1, h.2, ⟨mx, hx⟩⟩
theorem door_met_ledgerRound (os : Os) (args : Array Value) : laidMetH Tryd.prog laid4 ((World.laidAll Tryd.prog os laid4).forCall (fun _ _ => 0) ⟨#[], args, []⟩).memory := by
  rw [MakeChecks.laidMetH_plain _ _ _ (by kernel_rfl)]
  exact laidMet_laidAll _ (by kernel_rfl) (by kernel_rfl)
set_option maxRecDepth 100000 in
theorem lifted_ledgerRound (os : Os) (started : os.Started) (H : Type) (enc : TypeId × Value → H) :
    ReturnsInHanded {} Tryd.checked os 3 .any (fun w args => (Rows.ledgerRoundSpec.pre enc Tryd.prog Tryd.f3 [] false w args ∧ laidMetH Tryd.prog laid4 w) ∧ sizedMet enc Tryd.prog Tryd.f3 (OpenSpec.ofChange Rows.ledgerRoundSpec) false w args)
      (Rows.ledgerRoundSpec.post enc Tryd.prog Tryd.f3 false true false false) := by
  refine handed_open (C := Tryd.checked) own started (by kernel_rfl) Tryd.func3
    (ChangeSpec.witness_shaped (enc := enc) (C := Tryd.checked) (os := os) (X := fun w _ => laidMetH Tryd.prog laid4 w) false (World.laidAll Tryd.prog os laid4) #[.slice none 0 0] 8 (World.laidAll_os _ _ _) (World.shaped_of_ZipB (by kernel_rfl) (by kernel_rfl)) (by kernel_rfl) (by kernel_rfl) (by kernel_rfl) (door_met_ledgerRound os _)) ?_
  intro W base args ds gs before hval0 hW hL hO
  have hval : ∀ (j : Nat) t v, Tryd.f3.params[j]? = some t → args[j]? = some v → Value.okWide Tryd.prog W .any base t v := hval0
  have hW' := hW
  obtain ⟨p, q, hA0, hV, rfl, hfz, hnd⟩ := hW
  have hA : DataW.TrodAll enc Tryd.prog W 0 (fun _ => true) true Tryd.f3.params.toList args.toList ds p := hA0
  rw [Tryd.params3] at hA hval
  obtain ⟨v0, vs0, d0, ds0, p0, q0, hargs, rfl, rfl, h0, r0⟩ := trodAll_cons hA
  obtain ⟨rfl, rfl, rfl⟩ := trodAll_nil r0
  obtain rfl : args = #[v0] := by cases args; simp_all
  obtain ⟨rfl, rfl⟩ := trodVars_none hV
  obtain ⟨a0, len0, cap0, rfl⟩ := okWide_slice Tryd.underlying22 (hval 0 22 v0 rfl rfl)
  have k0 := h0
  have lt0 : ∀ x ∈ p0, x.block < W.heap.size := by obtain ⟨m, hm⟩ := k0; exact DataW.trod_lt m _ _ _ hm
  obtain ⟨xs, hxs⟩ : ∃ xs : List Ent, Kd.C entK W a0 len0 xs := by
    obtain ⟨fuel, hf⟩ := h0
    exact ents_of_trod hf
  clear hA0 hval0
  obtain ⟨mx, hx⟩ := maxLen_of_open hO
  refine (ledgerRoundX a0 len0 cap0 xs W hxs (of_laid hL) mx hx).mono fun e W' ⟨he, bel⟩ => ?_
  subst he
  exact ⟨_, rfl, _, _, _, [], _, [], hW', trodAll_mk1 (shut_bool Tryd.underlying4 _), (trodAll_cons_mk (Below.trod laidOut (by kernel_rfl) (of_decide_eq_true (by kernel_rfl)) k0 bel lt0) trodAll_mk0), rfl, bel.frame _, fun h => by cases h⟩
theorem over_ledgerRound : Rows.ledgerRoundRow.holds Tryd.pinned (OpenSpec.ofChange Rows.ledgerRoundSpec) :=
  OpenClaim.holds_of_wide 3 Tryd.f3 rfl rfl rfl rfl rfl rfl rfl ⟨rfl, rfl, rfl, rfl, rfl⟩ rfl rfl rfl rfl rfl (by kernel_rfl) Tryd.func3 (by kernel_rfl)
    (of_decide_eq_true (by kernel_rfl)) (by unfold Func.isWrapper; first | (rw [if_pos (by decide +kernel)]; kernel_rfl) | (rw [if_neg (by decide +kernel)]; exact ⟨rfl, rfl⟩))
    (fun os started H enc _ => lifted_ledgerRound os started H enc)
theorem ledgerRound_card : Rows.LedgerRoundCardSaid :=
  Claim7.holds_tied_plain_at .later [] [.data, .data, .data, .data, .sentinel, .sentinel, .listed, .data, .pinned] true (true, "7b9b86bd0e4e46bf34203da9d37eab13863e2ab1447c9e3df7d3f2397a491f99") true
    over_ledgerRound (fun _ h => by cases h) (by kernel_rfl) (fun _ h => by cases h) ledgerRound_row_tie rfl ⟨rfl, rfl⟩ (by kernel_rfl) rfl
    (fun f fn hf hfn => by
      obtain rfl : f = 3 := Option.some.inj ((show Tryd.prog.funcNamed "corncrib/cornkeep1.LedgerRound" = some 3 by kernel_rfl).symm.trans hf) |>.symm
      obtain rfl : fn = Tryd.f3 := (Option.some.inj (Tryd.func3.symm.trans hfn)).symm
      exact ⟨by kernel_rfl, fun j t ht => by
        rw [Tryd.params3] at ht
        have hall : ∀ t ∈ ([22] : List TypeId), Tryd.prog.wantsStandIn t = false := by
          intro t ht
          simp only [List.mem_cons, List.mem_nil_iff, or_false] at ht
          rcases ht with rfl <;> kernel_rfl
        exact hall t (by simpa using Array.mem_of_getElem? ht)⟩)
    (by kernel_rfl)
#print axioms ledgerRound_card
end Go.Proofs.YtafolceicpkhoaaDoor.Pol
namespace Go.Proofs.YtafolceicpkhoaaDoor
theorem ledgerRound_holds : Rows.LedgerRoundCardSaid := Pol.ledgerRound_card
end Go.Proofs.YtafolceicpkhoaaDoor
