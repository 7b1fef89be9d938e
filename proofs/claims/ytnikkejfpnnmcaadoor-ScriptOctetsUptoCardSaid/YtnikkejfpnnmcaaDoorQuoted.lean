/- cornref1.quoted. -/
import Derived.Test.YtnikkejfpnnmcaaDoorQuotedPure
import Derived.Deep.RegionHeld3
namespace Go.Proofs.YtnikkejfpnnmcaaDoor.Quo
set_option linter.unusedVariables false
set_option linter.unusedSimpArgs false
open Go.RowKit Go.Proofs.YtnikkejfpnnmcaaDoorW.PrintWords Go.Proofs.YtnikkejfpnnmcaaDoorW.PrintLast Go.Proofs.YtnikkejfpnnmcaaDoorW.PrintMore Go.Proofs.YtnikkejfpnnmcaaDoor.Bld

abbrev Octs (w' : World) (g : Nat) (v : Value) (out : List UInt8) : Prop := Kd.R (Kd.int .u8) 5 w' g (fun _ => True) v (ints out)
theorem ints_snoc (out : List UInt8) (c : UInt8) : ints (out ++ [c]) = ints out ++ [(c.toNat : Int)] := by simp [ints]
def QuotedSays (s : ByteArray) (w : World) (e : Ending) (w' : World) : Prop := Below w.heap.size w w' ∧ ∃ v rest ok, e = .returned (.tuple #[v, .string rest, .bool ok]) ∧
  ((ok = false ∧ v = .slice none 0 0 ∧ rest = { data := #[] } ∧ ∀ bs, s.data.toList ≠ quotes bs) ∨
   (ok = true ∧ ∃ out : List UInt8, out.length ≤ s.size ∧ Octs w' w.heap.size v out ∧ (∀ bs, s.data.toList = quotes bs → bs = out ∧ rest.size = 0) ∧ (rest.size = 0 → s.data.toList = quotes out)))

set_option maxHeartbeats 2000000 in
set_option maxRecDepth 100000 in
theorem quoted_no (s : ByteArray) (w : World) (hno : s.size = 0 ∨ ∃ h : 0 < s.size, s[0] ≠ 34) :
    Calls Tryd.prog 29 #[.string s] w fun e w' => QuotedSays s w e w' := by
  rcases hno with h0 | ⟨h0, h1⟩
  · have e0 : s.toList.isEmpty = true := by
      rw [ByteArray.toList_eq]
      have : s.data.toList.length = 0 := by rw [← h0]; rfl
      rw [List.length_eq_zero_iff.1 this]; rfl
    have hq : ∀ bs, s.data.toList ≠ quotes bs := by
      intro bs e
      have : s.data.toList.length = 0 := by rw [← h0]; rfl
      rw [e] at this; unfold quotes at this; simp at this
    have HQ := Lib.hid hq
    clear hq h0
    go_enter Tryd.func29, Tryd.ntmps29
    go_wp2
    go_ret3
    exact ⟨Below.refl _ _, _, _, _, rfl, .inl ⟨rfl, rfl, rfl, HQ.out⟩⟩
  · have hl := str_at s 0 h0
    rw [List.drop_zero] at hl
    have e0 : (s.toList.isEmpty) = false := by rw [ByteArray.toList_eq, hl]; rfl
    have e34 : ((s[0].toNat : Int) != 34) = true := by
      rw [bne_iff_ne]; intro e; exact h1 (UInt8.toNat_inj.1 (by have : (34 : UInt8).toNat = 34 := rfl; omega))
    have hq : ∀ bs, s.data.toList ≠ quotes bs := by
      intro bs e
      rw [hl] at e
      unfold quotes at e
      exact h1 (List.cons.inj e).1
    have HQ := Lib.hid hq
    clear hq h1 hl
    go_enter Tryd.func29, Tryd.ntmps29
    go_wp2
    go_ret3
    exact ⟨Below.refl _ _, _, _, _, rfl, .inl ⟨rfl, rfl, rfl, HQ.out⟩⟩

set_option maxHeartbeats 8000000 in
set_option maxRecDepth 100000 in
theorem quoted_loop (s : ByteArray) (w : World) (hs : s.size ≤ 200000) (hE : ErrVar w) (h0 : 0 < s.size) (h1 : s[0] = 34) :
    Calls Tryd.prog 29 #[.string s] w fun e w' => QuotedSays s w e w' := by
  have hl := str_at s 0 h0
  have e0 : (s.toList.isEmpty) = false := by rw [ByteArray.toList_eq, ← List.drop_zero (l := s.data.toList), hl]; rfl
  have e34 : ((s[0].toNat : Int) != 34) = false := by rw [h1]; rfl
  rw [List.drop_zero, h1] at hl
  generalize hE0 : qd (s.data.toList.drop 1) [] = E
  have hno : E = none → ∀ bs, s.data.toList ≠ quotes bs := by
    intro e bs eb
    rw [eb] at hE0
    have : qd (bs.flatMap quo ++ [34]) [] = E := hE0
    rw [qd_quos, e] at this
    cases this
  have hyes : ∀ out l, E = some (out, l) → ∀ bs, s.data.toList = quotes bs → bs = out ∧ l = [] := by
    intro out l e bs eb
    rw [eb] at hE0
    have : qd (bs.flatMap quo ++ [34]) [] = E := hE0
    rw [qd_quos, e] at this
    have := Option.some.inj this
    exact ⟨(by simpa using (Prod.mk.inj this).1), (Prod.mk.inj this).2.symm⟩
  have HN := Lib.hid hno
  have HY := Lib.hid hyes
  have HE := Aside0.mk hE
  have HE0 := Aside0.mk hE0
  clear hno hyes hE hE0 hl h1
  go_enter Tryd.func29, Tryd.ntmps29
  go_wp2
  go_loopw [2, 3, 4, 5, 6, 7] (fun v _ _ i _ _ wr => ∃ (k : Nat) (out : List UInt8), 1 ≤ k ∧ k ≤ s.size ∧ i = .int .i64 k ∧ out.length ≤ k ∧ Aside0 (E = qd (s.data.toList.drop k) out) ∧ Aside0 (Octs wr w.heap.size v out) ∧ Aside0 (Below w.heap.size w wr)) (fun _ _ _ i _ _ _ => s.size + 1 - (intOf i).toNat)
  case atStart => exact ⟨1, [], by omega, by omega, rfl, by simp, ⟨HE0.out.symm⟩, ⟨Kd.R_nil _ _ _ _ _⟩, ⟨Below.refl _ _⟩⟩
  case round =>
    obtain ⟨k, out, hk1, hk2, rfl, hol, HK, HR, HB⟩ := hrel
    by_cases hlt : k < s.size
    · have hd := str_at s k hlt
      have h256 : (s[k].toNat : Int) < 256 := by have := UInt8.toNat_lt s[k]; omega
      by_cases h34 : s[k] = 34
      · have e34 : ((s[k].toNat : Int) == 34) = true := by rw [h34]; rfl
        have hn : E = some (out, s.data.toList.drop (k + 1)) := by rw [HK.out, hd, h34, qd_end]
        have HY2 := Lib.hid (HY.out _ _ hn)
        obtain ⟨A, c, rfl, hc, hC⟩ := Kd.R_reads HR.out
        have HC := Aside0.mk (Kd.reads_of_C (d := (0 : Int)) hC)
        have HL := Lib.hid (ints_length out)
        have g1 : IntKind.i64.wrap ((k : Int) + 1) = (k : Int) + 1 := IntWalk.i64_in _ (by omega)
        have g2 : ((k : Int) + 1).toNat = k + 1 := by omega
        have g3 : (0 : Int) ≤ (k : Int) + 1 := by omega
        have g4 : (k : Int) + 1 ≤ (s.size : Int) := by omega
        have hx : (s.extract 0 (k + 1)).data.toList = s.data.toList.take (k + 1) := by
          rw [ByteArray.data_extract, Array.toList_extract, List.extract_eq_take_drop]; rfl
        have HX := Lib.hid hx
        clear hn hd h34 hC hx HK
        go_wp2_with fail
        go_region_held3 (fun _ => True) (trivial) ((go_at_call 18; refine (quoteOf A _ c out _ (HC.out.below (below_drew (Below.refl _ _))) (by rw [HL.out]; omega)).mono ?_; rintro e w2 ⟨rfl, hb⟩; have HB2 := Aside0.mk hb; clear hb))
        have HBB := Aside0.mk (show Below wr.heap.size wr w2 from (below_drew (Below.refl _ _)).trans HB2.out)
        have HW := Aside0.mk (HB.out.trans (HBB.out.mono HB.out.size))
        have HRR := Aside0.mk (Kd.R_below HR.out HBB.out)
        have hxl : (s.extract 0 (k + 1)).toList = s.data.toList.take (k + 1) := by rw [ByteArray.toList_eq, HX.out]
        by_cases hq : quotes out = s.data.toList.take (k + 1)
        · have hb : (quotes out == (s.extract 0 (k + 1)).toList) = true := by rw [beq_iff_eq, hxl]; exact hq
          have HQ := Lib.hid hq
          clear hq hxl HB2 HBB
          rw [hb]
          go_wp2
          go_region_held3 (fun _ => True) (trivial) ((fail))
          go_wp2
          go_ret3
          refine ⟨by first | exact HW.out | exact HW.out.drew, _, _, _, rfl, .inr ⟨rfl, out, by omega, by first | exact HRR.out | exact Kd.R_below HRR.out (below_drew (Below.refl _ _)), ?_, ?_⟩⟩
          · intro bs e
            obtain ⟨y1, y2⟩ := HY2.out bs e
            refine ⟨y1, ?_⟩
            have h1 : (s.data.toList.drop (k + 1)).length = 0 := by rw [y2]; rfl
            have h2 : s.data.toList.length = s.size := rfl
            rw [List.length_drop] at h1
            rw [ByteArray.size_extract]; omega
          · intro hr
            rw [ByteArray.size_extract] at hr
            have h2 : s.data.toList.length = s.size := rfl
            rw [HQ.out, List.take_of_length_le (by omega)]
        · have hb : (quotes out == (s.extract 0 (k + 1)).toList) = false := by rw [beq_eq_false_iff_ne, hxl]; exact hq
          have hno2 : ∀ bs, s.data.toList ≠ quotes bs := by
            intro bs e
            obtain ⟨y1, y2⟩ := HY2.out bs e
            apply hq
            have h1 := List.take_append_drop (k + 1) s.data.toList
            rw [y2, List.append_nil] at h1
            rw [h1, e, y1]
          have HQ := Lib.hid hno2
          clear hq hxl HB2 HBB hno2
          rw [hb]
          go_wp2
          go_ret3
          exact ⟨HW.out, _, _, _, rfl, .inl ⟨rfl, rfl, rfl, HQ.out⟩⟩
      · have e34 : ((s[k].toNat : Int) == 34) = false := by
          rw [beq_eq_false_iff_ne]; intro e; exact h34 (UInt8.toNat_inj.1 (by have : (34 : UInt8).toNat = 34 := rfl; omega))
        by_cases h92 : s[k] = 92
        · have e92 : ((s[k].toNat : Int) != 92) = false := by rw [h92]; rfl
          by_cases hl1 : k + 1 < s.size
          · have hd2 := str_at s (k + 1) hl1
            have h256b : (s[k + 1].toNat : Int) < 256 := by have := UInt8.toNat_lt s[k + 1]; omega
            have hl1' : (k : Int) + 1 < (s.size : Int) := by omega
            by_cases hq : s[k + 1] = 34 ∨ s[k + 1] = 92
            · have hn : E = qd (s.data.toList.drop (k + 2)) (out ++ [s[k + 1]]) := by rw [HK.out, hd, hd2, h92, qd_esc _ _ _ hq]
              have HK2 := Aside0.mk hn
              have hqb : ((s[k + 1].toNat : Int) == 34) = true ∨ (((s[k + 1].toNat : Int) == 34) = false ∧ ((s[k + 1].toNat : Int) == 92) = true) := by
                rcases hq with h | h
                · left; rw [h]; rfl
                · right; rw [h]; exact ⟨rfl, rfl⟩
              clear HK hd hd2 h34 h92 hn hq
              rcases hqb with f34 | ⟨f34, f92⟩
              · go_wp2_with (first | ((with_reducible refine gate_builtin (b := .append) (xs := #[.tmp 69, .tmp 74]) rfl ?_); at_builtin; refine Kd.R_append (Kd.int .u8) (w0 := w) w.heap.size rfl (.tmp 69) (.tmp 74) 33 5 (.int .u8 0) 1 rfl Tryd.underlying33 infoU rfl (by decide) (by omega) _ (ints out) ((s[k + 1].toNat : Int)) [.int .u8 ((s[k + 1].toNat : Int))] (fun _ => True) (fun _ => False) rfl rfl ?aP (fun _ hk => hk.elim) ?aF ?aO ?aB ?aS ?aL ?_; (case aP => exact rfl); (case aB => exact (by repeat (first | (with_reducible first | exact HB.out | apply below_alloc | apply pw_below_drewN | apply below_drew1) | exact HB.out))); (case aF => exact (fun _ _ => trivial)); (case aO => exact (by (with_reducible repeat (first | apply Kd.R_alloc | apply Kd.R_drewN | apply Kd.R_drew)); exact HR.out)); (case aS => exact (below_size (by repeat (first | (with_reducible first | exact HB.out | apply below_alloc | apply pw_below_drewN | apply below_drew1) | exact HB.out)))); (case aL => rw [ints_length]; omega); intro v1 w1 ho hb hg hat; have HO1 := Aside0.mk ho; have HB1 := Aside0.mk hb; clear ho hb hg hat))
                rw [← ints_snoc] at HO1
                go_wp2
                go_roundw
                case rel => exact ⟨k + 2, out ++ [s[k + 1]], by omega, by omega, by go_num, by simp; omega, HK2, HO1, HB1⟩
                case measure => simp [intOf]; omega
              · go_wp2_with (first | ((with_reducible refine gate_builtin (b := .append) (xs := #[.tmp 69, .tmp 74]) rfl ?_); at_builtin; refine Kd.R_append (Kd.int .u8) (w0 := w) w.heap.size rfl (.tmp 69) (.tmp 74) 33 5 (.int .u8 0) 1 rfl Tryd.underlying33 infoU rfl (by decide) (by omega) _ (ints out) ((s[k + 1].toNat : Int)) [.int .u8 ((s[k + 1].toNat : Int))] (fun _ => True) (fun _ => False) rfl rfl ?aP (fun _ hk => hk.elim) ?aF ?aO ?aB ?aS ?aL ?_; (case aP => exact rfl); (case aB => exact (by repeat (first | (with_reducible first | exact HB.out | apply below_alloc | apply pw_below_drewN | apply below_drew1) | exact HB.out))); (case aF => exact (fun _ _ => trivial)); (case aO => exact (by (with_reducible repeat (first | apply Kd.R_alloc | apply Kd.R_drewN | apply Kd.R_drew)); exact HR.out)); (case aS => exact (below_size (by repeat (first | (with_reducible first | exact HB.out | apply below_alloc | apply pw_below_drewN | apply below_drew1) | exact HB.out)))); (case aL => rw [ints_length]; omega); intro v1 w1 ho hb hg hat; have HO1 := Aside0.mk ho; have HB1 := Aside0.mk hb; clear ho hb hg hat))
                rw [← ints_snoc] at HO1
                go_wp2
                go_roundw
                case rel => exact ⟨k + 2, out ++ [s[k + 1]], by omega, by omega, by go_num, by simp; omega, HK2, HO1, HB1⟩
                case measure => simp [intOf]; omega
            · have f34 : ((s[k + 1].toNat : Int) == 34) = false := by
                rw [beq_eq_false_iff_ne]; intro e; exact hq (.inl (UInt8.toNat_inj.1 (by have : (34 : UInt8).toNat = 34 := rfl; omega)))
              have f92 : ((s[k + 1].toNat : Int) == 92) = false := by
                rw [beq_eq_false_iff_ne]; intro e; exact hq (.inr (UInt8.toNat_inj.1 (by have : (92 : UInt8).toNat = 92 := rfl; omega)))
              by_cases hx : s[k + 1] = 120 ∧ k + 3 < s.size
              · have f120 : ((s[k + 1].toNat : Int) == 120) = true := by rw [hx.1]; rfl
                have hl3 : (k : Int) + 3 < (s.size : Int) := by omega
                have hz2 : k + 2 < s.size := by omega
                have hz3 : k + 3 < s.size := hx.2
                have g4 : (k : Int) + 4 ≤ (s.size : Int) := by omega
                have hd5 : s.data.toList.drop k = 92 :: 120 :: s[k + 2] :: s[k + 3] :: s.data.toList.drop (k + 4) := by rw [hd, hd2, str_at s (k + 2) hz2, str_at s (k + 3) hz3, h92, hx.1]
                have hk := HK.out
                rw [hd5] at hk
                clear HK hd hd2 h34 h92 hx hq hd5
                have hsz : (s.extract (k + 2) (k + 4)).size = 2 := by rw [ByteArray.size_extract]; omega
                have hls : (s.extract (k + 2) (k + 4)).data.toList = [s[k + 2], s[k + 3]] := by
                  rw [ByteArray.data_extract, Array.toList_extract, List.extract_eq_take_drop, str_at s (k + 2) hz2, str_at s (k + 3) hz3]
                  show List.take (k + 4 - (k + 2)) _ = _
                  rw [show k + 4 - (k + 2) = 2 by omega]; rfl
                have HP := Aside0.mk (parseHex _ hsz wr (HE.out.below HB.out))
                rw [hls] at HP
                have hkey := hexRun_le s[k + 2] s[k + 3]
                generalize s[k + 2] = a at *
                generalize s[k + 3] = b at *
                have HK3 := Aside0.mk hk
                clear hk hsz hls
                go_wp2_with fail
                refine HP.out.mono ?_
                rintro e w1 ⟨⟨x, er, rfl, hr⟩, hb⟩
                have HR2 := Aside0.mk (Kd.R_below HR.out hb)
                have HB2 := Aside0.mk (HB.out.trans (hb.mono HB.out.size))
                clear hb HP
                rcases hr with ⟨rfl, hv⟩ | ⟨hn, te, pe, rfl⟩
                · obtain ⟨x0, x1⟩ := hkey x hv
                  have hn : E = qd (s.data.toList.drop (k + 4)) (out ++ [UInt8.ofNat x.toNat]) := by rw [HK3.out, qd_hex _ _ _ _ _ hv]
                  have hx8 : ((UInt8.ofNat x.toNat).toNat : Int) = x := by simp; omega
                  have hin : ints (out ++ [UInt8.ofNat x.toNat]) = ints out ++ [x] := by rw [ints_snoc, hx8]
                  have HK2 := Aside0.mk hn
                  have HI := Lib.hid hin
                  have hw8 : IntKind.u8.wrap x = x := by rw [IntKind.wrap_u8]; omega
                  clear hn hv hkey HK3 hx8 hin
                  go_wp2_with (first | ((with_reducible refine gate_builtin (b := .append) (xs := #[.tmp 103, .tmp 106]) rfl ?_); at_builtin; refine Kd.R_append (Kd.int .u8) (w0 := w) w.heap.size rfl (.tmp 103) (.tmp 106) 33 5 (.int .u8 0) 1 rfl Tryd.underlying33 infoU rfl (by decide) (by omega) _ (ints out) (x) [.int .u8 (x)] (fun _ => True) (fun _ => False) rfl rfl ?aP (fun _ hk => hk.elim) ?aF ?aO ?aB ?aS ?aL ?_; (case aP => exact rfl); (case aB => exact (by repeat (first | (with_reducible first | exact HB2.out | apply below_alloc | apply pw_below_drewN | apply below_drew1) | exact HB2.out))); (case aF => exact (fun _ _ => trivial)); (case aO => exact (by (with_reducible repeat (first | apply Kd.R_alloc | apply Kd.R_drewN | apply Kd.R_drew)); exact HR2.out)); (case aS => exact (below_size (by repeat (first | (with_reducible first | exact HB2.out | apply below_alloc | apply pw_below_drewN | apply below_drew1) | exact HB2.out)))); (case aL => rw [ints_length]; omega); intro v1 w1 ho hb hg hat; have HO1 := Aside0.mk ho; have HB1 := Aside0.mk hb; clear ho hb hg hat))
                  rw [← HI.out] at HO1
                  go_wp2
                  go_roundw
                  case rel => exact ⟨k + 4, out ++ [UInt8.ofNat x.toNat], by omega, by omega, by go_num, by simp; omega, HK2, HO1, HB1⟩
                  case measure => simp [intOf]; omega
                · have hE1 : E = none := by rw [HK3.out, qd_hexBad _ _ _ _ hn]
                  have HQ := Lib.hid (HN.out hE1)
                  have hnn := fun w => notNil w te pe
                  clear hE1 hn hkey HK3
                  go_wp2
                  go_ret3
                  exact ⟨HB2.out, _, _, _, rfl, .inl ⟨rfl, rfl, rfl, HQ.out⟩⟩
              · have hn : E = none := by
                  rw [HK.out, hd, hd2, h92]
                  refine qd_bad _ _ _ hq ?_
                  by_cases h : s[k + 1] = 120
                  · right
                    have h3 : ¬ k + 3 < s.size := fun h3 => hx ⟨h, h3⟩
                    have : s.data.toList.length = s.size := rfl
                    rw [List.length_drop]; omega
                  · exact .inl h
                have HQ := Lib.hid (HN.out hn)
                have hor : (s.size : Int) ≤ (k : Int) + 3 ∨ ((k : Int) + 3 < (s.size : Int) ∧ ((s[k + 1].toNat : Int) == 120) = false) := by
                  by_cases h3 : k + 3 < s.size
                  · right
                    refine ⟨by omega, ?_⟩
                    rw [beq_eq_false_iff_ne]; intro e; exact hx ⟨UInt8.toNat_inj.1 (by have : (120 : UInt8).toNat = 120 := rfl; omega), h3⟩
                  · left; omega
                clear HK hd hd2 h34 h92 hx hq hn
                rcases hor with h3 | ⟨h3, f120⟩
                · go_wp2
                  go_ret3
                  exact ⟨HB.out, _, _, _, rfl, .inl ⟨rfl, rfl, rfl, HQ.out⟩⟩
                · go_wp2
                  go_ret3
                  exact ⟨HB.out, _, _, _, rfl, .inl ⟨rfl, rfl, rfl, HQ.out⟩⟩
          · have hn : E = none := by
              have h2 : s.data.toList.drop (k + 1) = [] := List.drop_eq_nil_of_le (by have : s.data.toList.length = s.size := rfl; omega)
              rw [HK.out, hd, h2, h92, qd_last]
            have HQ := Lib.hid (HN.out hn)
            have hge1 : (s.size : Int) ≤ (k : Int) + 1 := by omega
            have hge3 : (s.size : Int) ≤ (k : Int) + 3 := by omega
            clear HK hd h34 h92 hn
            go_wp2
            go_ret3
            exact ⟨HB.out, _, _, _, rfl, .inl ⟨rfl, rfl, rfl, HQ.out⟩⟩
        · have e92 : ((s[k].toNat : Int) != 92) = true := by
            rw [bne_iff_ne]; intro e; exact h92 (UInt8.toNat_inj.1 (by have : (92 : UInt8).toNat = 92 := rfl; omega))
          have hn : E = qd (s.data.toList.drop (k + 1)) (out ++ [s[k]]) := by rw [HK.out, hd, qd_plain _ _ _ h34 h92]
          have HK2 := Aside0.mk hn
          clear HK hd h34 h92 hn
          go_wp2_with (first | ((with_reducible refine gate_builtin (b := .append) (xs := #[.tmp 43, .tmp 47]) rfl ?_); at_builtin; refine Kd.R_append (Kd.int .u8) (w0 := w) w.heap.size rfl (.tmp 43) (.tmp 47) 33 5 (.int .u8 0) 1 rfl Tryd.underlying33 infoU rfl (by decide) (by omega) _ (ints out) ((s[k].toNat : Int)) [.int .u8 ((s[k].toNat : Int))] (fun _ => True) (fun _ => False) rfl rfl ?aP (fun _ hk => hk.elim) ?aF ?aO ?aB ?aS ?aL ?_; (case aP => exact rfl); (case aB => exact (by repeat (first | (with_reducible first | exact HB.out | apply below_alloc | apply pw_below_drewN | apply below_drew1) | exact HB.out))); (case aF => exact (fun _ _ => trivial)); (case aO => exact (by (with_reducible repeat (first | apply Kd.R_alloc | apply Kd.R_drewN | apply Kd.R_drew)); exact HR.out)); (case aS => exact (below_size (by repeat (first | (with_reducible first | exact HB.out | apply below_alloc | apply pw_below_drewN | apply below_drew1) | exact HB.out)))); (case aL => rw [ints_length]; omega); intro v1 w1 ho hb hg hat; have HO1 := Aside0.mk ho; have HB1 := Aside0.mk hb; clear ho hb hg hat))
          rw [← ints_snoc] at HO1
          go_wp2
          go_roundw
          case rel => exact ⟨k + 1, out ++ [s[k]], by omega, by omega, by go_num, by simp; omega, HK2, HO1, HB1⟩
          case measure => simp [intOf]; omega
    · have hd : s.data.toList.drop k = [] := List.drop_eq_nil_of_le (by have : s.data.toList.length = s.size := rfl; omega)
      have hn : E = none := by rw [HK.out, hd, qd_nil]
      have HQ := Lib.hid (HN.out hn)
      have hge : (s.size : Int) ≤ (k : Int) := by omega
      clear hn hd
      go_wp2
      go_ret3
      exact ⟨HB.out, _, _, _, rfl, .inl ⟨rfl, rfl, rfl, HQ.out⟩⟩
end Go.Proofs.YtnikkejfpnnmcaaDoor.Quo
