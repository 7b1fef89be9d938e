/- cornref1.Digits (at most nine digits), at every string. -/
import Derived.Test.YtafolceicpkhoaaDoorNumBase
import Derived.Shelf.Strings.SlTrimAscii
import Derived.WalkSpells
namespace Go.Proofs.YtafolceicpkhoaaDoor.Pol
set_option linter.unusedVariables false
open Go.RowKit Go.Proofs.YtafolceicpkhoaaDoorW.PrintWords Go.Proofs.YtafolceicpkhoaaDoorW.PrintLast Go.Proofs.YtafolceicpkhoaaDoorW.PrintMore
set_option linter.unusedSimpArgs false

theorem empty_iff (s : ByteArray) : s.toList.isEmpty = true ↔ s.data.toList = [] := by rw [ByteArray.toList_eq]; exact List.isEmpty_iff
theorem head_at (d : ByteArray) (h : 0 < d.size) : d.data.toList.head? = some d[0] := by
  have h0 : d.data.toList ≠ [] := by
    intro e
    have : d.data.toList.length = d.size := rfl
    rw [e] at this; simp at this; omega
  rw [List.head?_eq_getElem?, List.getElem?_eq_getElem (by simpa using h)]; rfl
theorem trimDig (s : ByteArray) (hs : s.size ≤ 1000000) (w : World) : ∃ T : ByteArray, (T.toList.isEmpty = true ↔ ∀ b ∈ s.data.toList, IsDig b) ∧
    Calls Tryd.prog 38 #[.string s, .string { data := #[48, 49, 50, 51, 52, 53, 54, 55, 56, 57] }] w fun e w' => e = .returned (.string T) ∧ Below w.heap.size w w' := by
  refine ⟨⟨(Lib.trimS s.data.toList digL).toArray⟩, ?_, Any.strings_Trim_laid Tryd.lays160 (by kernel_rfl) s _ w (by omega) (by decide) (ascii_of_all (by decide))⟩
  rw [empty_iff, ← trim_nil]

set_option maxHeartbeats 10000000 in
set_option maxRecDepth 100000 in
theorem digits_yes (s : ByteArray) (v : Int) (hv : Can s.data.toList v) (w : World) (hE : Errs w) :
    Calls Tryd.prog 24 #[.string s, .int .i64 9] w fun e w' => e = .returned (.tuple #[.int .i64 v, .bool true]) ∧ Below w.heap.size w w' := by
  have hlen := can_len hv
  have hsz : s.size = s.data.toList.length := rfl
  obtain ⟨⟨g1, g2, g3⟩, g4, g5⟩ := good_of_can hv
  have hat : ∀ u, Below w.heap.size w u → Calls Tryd.prog 35 #[.string s] u fun e w' => e = .returned (.tuple #[.int .i64 v, .nilIface]) ∧ Below u.heap.size u w' := by
    intro u hu
    rcases atoiAny s (by omega) u (hE.below hu) with ⟨x, h1, h2⟩ | ⟨h1, _⟩
    · rw [can_atoi hv] at h1
      injection h1 with h1
      rw [h1]; exact h2
    · exact absurd (can_atoi hv) (h1 v)
  have hds : (tpB s).size ≤ 9 := by rw [tpB_size]; exact g4
  have hdl := tpB_list s
  rw [← hdl] at g1 g2 g3 g5
  have HTr := Aside0.mk (trimAny s)
  generalize tpB s = d at *
  obtain ⟨T, hT1, hT2⟩ := trimDig d (by omega) w
  have hTe : T.toList.isEmpty = true := hT1.2 g2
  have hde : d.toList.isEmpty = false := by rw [Bool.eq_false_iff]; intro e; exact g1 ((empty_iff d).1 e)
  have hd0 : 0 < d.size := by
    by_cases h : d.size = 0
    · have : d.data.toList.length = 0 := h
      exact absurd (List.length_eq_zero_iff.1 this) g1
    · omega
  have hd9 : decide ((9 : Int) < (d.size : Int)) = false := decide_eq_false (by omega)
  have c4 : (decide ((1 : Int) < (d.size : Int)) = true ∧ ((d[0].toNat : Int) == 48) = false) ∨ decide ((1 : Int) < (d.size : Int)) = false := by
    by_cases h : 1 < d.size
    · refine .inl ⟨decide_eq_true (by omega), ?_⟩
      rw [beq_eq_false_iff_ne]
      intro e
      apply g3 h
      rw [head_at d hd0, show d[0] = 48 from UInt8.toNat_inj.1 (by have : (48 : UInt8).toNat = 48 := rfl; omega)]
    · exact .inr (decide_eq_false (by omega))
  have c5 : ((d.toList == [48]) = true ∧ (s.toList == [48]) = true) ∨ (d.toList == [48]) = false := by
    rw [ByteArray.toList_eq, ByteArray.toList_eq]
    by_cases h : d.data.toList = [48]
    · refine .inl ⟨beq_iff_eq.2 h, beq_iff_eq.2 ?_⟩
      by_cases h2 : s.data.toList = [48]
      · exact h2
      · exact absurd ⟨h, h2⟩ g5
    · exact .inr (beq_eq_false_iff_ne.2 h)
  have HA := Lib.hid hat
  have HT := Aside0.mk hT2
  clear hat hT1 hT2 hE hv g1 g2 g3 g5 g4 hdl hsz
  rcases c4 with ⟨x1, x2⟩ | x1
  all_goals
    rcases c5 with ⟨y1, y2⟩ | y1
    all_goals
      go_enter Tryd.func24, Tryd.ntmps24
      go_wp2_with fail
      refine (HTr.out _).mono ?_
      rintro e w1 ⟨rfl, rfl⟩
      go_wp2_with fail
      refine HT.out.mono ?_
      rintro e w1 ⟨rfl, hb1⟩
      have HB1 := Aside0.mk hb1
      clear hb1
      go_wp2_with fail
      refine (HA.out _ HB1.out).mono ?_
      rintro e w2 ⟨rfl, hb2⟩
      have HB2 := Aside0.mk (below_then HB1.out HB1.out.size hb2)
      clear hb2
      go_wp2_with fail
      go_quiet (fail)
      go_wp2_with fail
      go_ret2
      exact ⟨rfl, by first | exact HB2.out | exact pw_below_drewN HB2.out _⟩

set_option maxHeartbeats 4000000 in
set_option maxRecDepth 100000 in
theorem digits_no (s : ByteArray) (hs : s.size ≤ 1000000) (hno : ∀ v, ¬ Can s.data.toList v) (w : World) :
    Calls Tryd.prog 24 #[.string s, .int .i64 9] w fun e w' => e = .returned (.tuple #[.int .i64 0, .bool false]) ∧ Below w.heap.size w w' := by
  have hng : ¬ Good s.data.toList := fun h => by obtain ⟨v, hv⟩ := can_of_good h; exact hno v hv
  have hds : (tpB s).size ≤ s.size := by rw [tpB_size]; exact tp_le _
  have hds2 : (tpB s).size = (tp s.data.toList).length := tpB_size s
  have hdl := tpB_list s
  unfold Good CanD at hng
  rw [← hds2, ← hdl] at hng
  have HTr := Aside0.mk (trimAny s)
  generalize tpB s = d at *
  obtain ⟨T, hT1, hT2⟩ := trimDig d (by omega) w
  have HT := Aside0.mk hT2
  have hdz : d.data.toList.length = d.size := rfl
  by_cases z1 : d.data.toList = []
  · have hde : d.toList.isEmpty = true := (empty_iff d).2 z1
    clear hT1 hT2 hng z1 hdl hds2 hdz
    go_enter Tryd.func24, Tryd.ntmps24
    go_wp2_with fail
    refine (HTr.out _).mono ?_
    rintro e w1 ⟨rfl, rfl⟩
    go_wp2_with fail
    go_ret2
    exact ⟨rfl, Below.refl _ _⟩
  · have hde : d.toList.isEmpty = false := by rw [Bool.eq_false_iff]; intro e; exact z1 ((empty_iff d).1 e)
    have hd0 : 0 < d.size := by
      by_cases h : d.size = 0
      · exact absurd (List.length_eq_zero_iff.1 (hdz.trans h)) z1
      · omega
    by_cases z2 : 9 < d.size
    · have hd9 : decide ((9 : Int) < (d.size : Int)) = true := decide_eq_true (by omega)
      clear hT1 hT2 hng z1 hdl hds2 hdz
      go_enter Tryd.func24, Tryd.ntmps24
      go_wp2_with fail
      refine (HTr.out _).mono ?_
      rintro e w1 ⟨rfl, rfl⟩
      go_wp2_with fail
      go_ret2
      exact ⟨rfl, Below.refl _ _⟩
    · have hd9 : decide ((9 : Int) < (d.size : Int)) = false := decide_eq_false (by omega)
      have rest : T.toList.isEmpty = false ∨ (T.toList.isEmpty = true ∧ ((decide ((1 : Int) < (d.size : Int)) = true ∧ ((d[0].toNat : Int) == 48) = true) ∨
          ((decide ((1 : Int) < (d.size : Int)) = false ∧ (d.toList == [48]) = true ∧ (s.toList == [48]) = false)))) := by
        by_cases z3 : ∀ b ∈ d.data.toList, IsDig b
        · refine .inr ⟨hT1.2 z3, ?_⟩
          by_cases z4 : 1 < d.data.toList.length → d.data.toList.head? ≠ some 48
          · have z5 : d.data.toList = [48] ∧ s.data.toList ≠ [48] := by
              by_cases h : d.data.toList = [48] ∧ s.data.toList ≠ [48]
              · exact h
              · exact absurd ⟨⟨z1, z3, z4⟩, by omega, h⟩ hng
            have hsz1 : d.size = 1 := by rw [← hdz, z5.1]; rfl
            refine .inr ⟨decide_eq_false (by omega), ?_, ?_⟩
            · rw [ByteArray.toList_eq]; exact beq_iff_eq.2 z5.1
            · rw [ByteArray.toList_eq]; exact beq_eq_false_iff_ne.2 z5.2
          · obtain ⟨h1, h2⟩ := Classical.not_imp.1 z4
            have h3 : d.data.toList.head? = some 48 := Classical.not_not.1 h2
            refine .inl ⟨decide_eq_true (by omega), ?_⟩
            rw [head_at d hd0] at h3
            rw [Option.some.inj h3]; rfl
        · exact .inl (by rw [Bool.eq_false_iff]; intro e; exact z3 (hT1.1 e))
      clear hT1 hT2 hng z1 z2 hdl hds2 hdz
      rcases rest with x1 | ⟨x1, ⟨x2, x3⟩ | ⟨x2, x3, x4⟩⟩
      all_goals
        go_enter Tryd.func24, Tryd.ntmps24
        go_wp2_with fail
        refine (HTr.out _).mono ?_
        rintro e w1 ⟨rfl, rfl⟩
        go_wp2_with fail
        refine HT.out.mono ?_
        rintro e w1 ⟨rfl, hb1⟩
        have HB1 := Aside0.mk hb1
        clear hb1
        go_wp2_with fail
        go_ret2
        exact ⟨rfl, HB1.out⟩
theorem digitsAny (s : ByteArray) (hs : s.size ≤ 1000000) (w : World) (hE : Errs w) :
    Calls Tryd.prog 24 #[.string s, .int .i64 9] w fun e w' => ∃ n ok, e = .returned (.tuple #[.int .i64 n, .bool ok]) ∧ Below w.heap.size w w' ∧ ((ok = true ∧ Can s.data.toList n) ∨ (ok = false ∧ ∀ v, ¬ Can s.data.toList v)) := by
  by_cases h : ∃ v, Can s.data.toList v
  · obtain ⟨v, hv⟩ := h
    exact (digits_yes s v hv w hE).mono fun e w' ⟨he, hb⟩ => ⟨v, true, he, hb, .inl ⟨rfl, hv⟩⟩
  · have hno : ∀ v, ¬ Can s.data.toList v := fun v hv => h ⟨v, hv⟩
    exact (digits_no s hs hno w).mono fun e w' ⟨he, hb⟩ => ⟨0, false, he, hb, .inr ⟨rfl, hno⟩⟩
end Go.Proofs.YtafolceicpkhoaaDoor.Pol
