/- LedgerReads and LedgerRound: the laws. -/
import Derived.Test.YtafolceicpkhoaaDoorEntsRef
namespace Go.Proofs.YtafolceicpkhoaaDoor.Pol
set_option linter.unusedVariables false
set_option linter.unusedSimpArgs false
open Go.RowKit Go.Proofs.YtafolceicpkhoaaDoorW.PrintWords Go.Proofs.YtafolceicpkhoaaDoorW.PrintLast Go.Proofs.YtafolceicpkhoaaDoorW.PrintMore Go.Proofs.YtafolceicpkhoaaDoor.Bld

set_option maxHeartbeats 4000000 in
set_option maxRecDepth 100000 in
theorem equalE (A0 A1 : Option Addr) (c0 c1 n : Nat) (xs : List Ent) (w : World) (h0 : Kd.C entK w A0 n xs) (h1 : Kd.C entK w A1 n xs) (hn : n ≤ 1000000) :
    Calls Tryd.prog 8 #[.slice A0 n c0, .slice A1 n c1] w fun e w' => e = .returned (.bool true) ∧ Below w.heap.size w w' := by
  have hl := h0.1
  have H0 := Aside0.mk h0
  have H1 := Aside0.mk h1
  have HL := Lib.hid hl
  clear h0 h1 hl
  go_enter Tryd.func8, Tryd.ntmps8
  go_wp2
  go_loopw [5, 13] (fun _ i wr => ∃ k : Nat, k ≤ n ∧ i = .int .i64 k ∧ Aside0 (Below w.heap.size w wr)) (fun _ i _ => n - (intOf i).toNat)
  case atStart => exact ⟨0, Nat.zero_le _, rfl, ⟨Below.refl _ _⟩⟩
  case round =>
    obtain ⟨k, hk, rfl, HB⟩ := hrel
    by_cases hlt : k < n
    · obtain ⟨x, hx⟩ : ∃ x, xs[k]? = some x := ⟨_, List.getElem?_eq_getElem (by rw [HL.out]; exact hlt)⟩
      obtain ⟨a0, rfl, e0, f0⟩ := entAt (Kd.C_below H0.out HB.out) k x hx
      obtain ⟨a1, rfl, e1, f1⟩ := entAt (Kd.C_below H1.out HB.out) k x hx
      have e01 := f0 1 _ rfl
      have e02 := f0 2 _ rfl
      have e03 := f0 3 _ rfl
      have e04 := f0 4 _ rfl
      have e05 := f0 5 _ rfl
      have e11 := f1 1 _ rfl
      have e12 := f1 2 _ rfl
      have e13 := f1 3 _ rfl
      have e14 := f1 4 _ rfl
      have e15 := f1 5 _ rfl
      have k0 : (0 : Int) ≤ (k : Int) := by omega
      have k1 : (k : Int) < (n : Int) := by omega
      clear f0 f1 hx
      go_wp2_with fail
      go_quiet (fail)
      go_wp2
      go_roundw
      case rel => exact ⟨k + 1, by omega, by go_num, ⟨pw_below_drewN HB.out _⟩⟩
      case measure => simp [intOf]; omega
    · go_wp2
      go_ret
      exact ⟨rfl, HB.out⟩

/-- What the program's variables hold where the laws begin. -/
structure AllVars (w : World) : Prop where
  tabs : Tabs w
  errs : Errs w
  maxl : MaxL w

theorem re_len {big : Prop} {ls : List (List UInt8)} {rem : List UInt8} {xs : List Ent} {er : Int} (h : RE big ls rem xs er) : xs.length ≤ 5000 := by
  rcases h with ⟨_, rfl, _⟩ | ⟨_, ⟨_, rfl, _⟩ | ⟨_, _, rfl, _⟩ | ⟨_, ys, t, _, h2, ⟨h3, rfl⟩ | ⟨_, rfl⟩⟩⟩
  · simp
  · simp
  · simp
  · rcases h2 with ⟨_, _, h4⟩ | ⟨h4, _⟩ | ⟨h4, _⟩
    · omega
    · exact h4
    · exact h4
  · simp

set_option maxHeartbeats 4000000 in
set_option maxRecDepth 100000 in
theorem ledgerReads (s : ByteArray) (w : World) (hA : AllVars w) (hW : Words12 w) :
    Calls Tryd.prog 4 #[.string s] w fun e w' => e = .returned (.bool true) ∧ Below w.heap.size w w' := by
  obtain ⟨ls, rem, hI⟩ := text_is s
  have H1 := Aside0.mk (readEntries s ls rem hI w hA.tabs hA.errs hA.maxl)
  have H2 := Lib.hid (fun w1 (hb : Below w.heap.size w w1) => readEntriesOf s ls rem hI w1 (hA.errs.below hb) (hA.maxl.below hb) (hW.below hb))
  clear hA hI hW
  go_enter Tryd.func4, Tryd.ntmps4
  go_wp2_with fail
  refine H1.out.mono ?_
  rintro e w1 ⟨xs, er, A, c, h1, rfl, hC, hc, hb1⟩
  have HRE := Aside0.mk h1
  have HC := Aside0.mk hC
  have HB1 := Aside0.mk hb1
  have hlen := re_len h1
  clear h1 hC hc hb1
  go_wp2_with fail
  refine (H2.out _ HB1.out).mono ?_
  rintro e w2 ⟨ys, er2, A2, c2, h2, rfl, hC2, hc2, hb2⟩
  obtain ⟨rfl, rfl⟩ := re_inj HRE.out h2
  have HC1 := Aside0.mk (Kd.C_below HC.out hb2)
  have HC2 := Aside0.mk hC2
  have HB2 := Aside0.mk (below_then HB1.out HB1.out.size hb2)
  generalize hn : xs.length = n at *
  clear h2 hC2 hc2 hb2 hn
  go_wp2_with fail
  refine (equalE A A2 c c2 n xs _ HC1.out HC2.out (by omega)).mono ?_
  rintro e w3 ⟨rfl, hb3⟩
  have HB3 := Aside0.mk (below_then HB2.out HB2.out.size hb3)
  clear hb3
  go_wp2
  go_ret
  exact ⟨rfl, HB3.out⟩

set_option maxHeartbeats 1000000 in
theorem newBook_no (w : World) : Calls Tryd.prog 10 #[.int .i64 (-1)] w fun e w' => e = .returned (.tuple #[.pointer none, .int .i64 2]) ∧ w = w' := by
  have h : decide ((0 : Int) ≤ -1 ∧ (-1 : Int) ≤ 10000000) = false := by decide
  go_enter Tryd.func10, Tryd.ntmps10
  go_wp2_with fail
  refine (within _ _ _ _).mono ?_
  rintro e w1 ⟨rfl, rfl⟩
  rw [h]
  go_wp2
  go_ret2
  exact ⟨rfl, rfl⟩
set_option maxHeartbeats 1000000 in
theorem awakeLedger (w : World) : Calls Tryd.prog 5 #[] w fun e w' => e = .returned (.bool true) ∧ w = w' := by
  go_enter Tryd.func5, Tryd.ntmps5
  go_wp2_with fail
  refine (newBook_no w).mono ?_
  rintro e w1 ⟨rfl, rfl⟩
  go_wp2
  go_ret
  exact ⟨rfl, rfl⟩

set_option maxHeartbeats 4000000 in
set_option maxRecDepth 100000 in
theorem ledgerRound (A : Option Addr) (n c : Nat) (xs : List Ent) (w : World) (hr : Kd.C entK w A n xs) (hA : AllVars w) :
    Calls Tryd.prog 3 #[.slice A n c] w fun e w' => e = .returned (.bool true) ∧ Below w.heap.size w w' := by
  have H1 := Aside0.mk (entriesText A n c xs w hr hA.tabs)
  have HA := Aside0.mk hA
  have HC := Aside0.mk hr
  clear hA hr
  go_enter Tryd.func3, Tryd.ntmps3
  go_wp2_with fail
  refine (awakeLedger w).mono ?_
  rintro e w0 ⟨rfl, rfl⟩
  go_wp2_with fail
  refine H1.out.mono ?_
  rintro e w1 ⟨s, er, hs, rfl, hb1⟩
  have HB1 := Aside0.mk hb1
  clear hb1
  by_cases her : er = 0
  · subst her
    have hok : xs.length ≤ 5000 ∧ (∀ x ∈ xs, Right x) ∧ s = ba (textOf xs) := by
      rcases hs with ⟨_, _, h⟩ | ⟨h1, h2, h3, _⟩ | ⟨_, _, a, x, b, _, _, ⟨_, h⟩ | ⟨_, _, h⟩⟩
      · cases h
      · exact ⟨h1, h2, h3⟩
      · cases h
      · cases h
    obtain ⟨h1, h2, rfl⟩ := hok
    have hI : TextIs (ba (textOf xs)) (xs.map lineOf) [] := ⟨by rw [ba_list, List.append_nil]; rfl, text_lines xs h2, by simp⟩
    have hsz : (ba (textOf xs)).size ≤ 305000 := by rw [ba_size]; have := text_len xs h2; omega
    have hbig : ¬ Big (ba (textOf xs)) (xs.map lineOf) := by
      rintro (h | h)
      · omega
      · rw [List.length_map] at h; omega
    have hRE : RE (Big (ba (textOf xs)) (xs.map lineOf)) (xs.map lineOf) [] xs 0 := .inr ⟨hbig, .inr (.inr ⟨rfl, xs, _, linesAre_text xs h2, hs, .inl ⟨rfl, rfl⟩⟩)⟩
    have HRE := Aside0.mk hRE
    have H2 := Lib.hid (fun w1 (hb : Below w.heap.size w w1) => readEntries (ba (textOf xs)) (xs.map lineOf) [] hI w1 (HA.out.tabs.below hb) (HA.out.errs.below hb) (HA.out.maxl.below hb))
    have hlen : n ≤ 5000 := by rw [← HC.out.1]; exact h1
    have HN := Lib.hid HC.out.1
    clear hs h1 h2 hI hsz hbig hRE
    generalize ba (textOf xs) = S at *
    go_wp2_with fail
    refine (H2.out _ HB1.out).mono ?_
    rintro e w2 ⟨ys, er2, A2, c2, h2, rfl, hC2, hc2, hb2⟩
    obtain ⟨rfl, rfl⟩ := re_inj HRE.out h2
    have HC1 := Aside0.mk (Kd.C_below (Kd.C_below HC.out HB1.out) hb2)
    rw [HN.out] at hC2 ⊢
    have HC2 := Aside0.mk hC2
    have HB2 := Aside0.mk (below_then HB1.out HB1.out.size hb2)
    clear h2 hC2 hc2 hb2
    go_wp2_with fail
    refine (equalE A A2 c c2 n xs _ HC1.out HC2.out (by omega)).mono ?_
    rintro e w3 ⟨rfl, hb3⟩
    have HB3 := Aside0.mk (below_then HB2.out HB2.out.size hb3)
    clear hb3
    go_wp2
    go_ret
    exact ⟨rfl, HB3.out⟩
  · have hse : s = ByteArray.empty := by
      rcases hs with ⟨_, h, _⟩ | ⟨h1, h2, h3, h4⟩ | ⟨_, h, _⟩
      · exact h
      · exact absurd h4 her
      · exact h
    subst hse
    have hne : (er != 0) = true := bne_iff_ne.2 her
    clear her hs
    go_wp2
    go_ret
    exact ⟨rfl, HB1.out⟩
end Go.Proofs.YtafolceicpkhoaaDoor.Pol
