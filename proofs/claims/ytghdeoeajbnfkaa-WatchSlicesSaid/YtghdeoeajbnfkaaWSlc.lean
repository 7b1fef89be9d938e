/- WatchSlices: the walk. -/
import Derived.Test.YtghdeoeajbnfkaaWSlcP
import Derived.Deep.QuietTactic
import Derived.BigQuiet
namespace Go.Proofs.Ytghdeoeajbnfkaa.WSl
open Go.RowKit Go.Proofs.YtghdeoeajbnfkaaW.PrintWords Go.Proofs.YtghdeoeajbnfkaaW.PrintLast Go.Proofs.YtghdeoeajbnfkaaW.PrintMore Go.Proofs.Ytghdeoeajbnfkaa.WMem Go.Proofs.Ytghdeoeajbnfkaa.PWatchSlices Go.Proofs.Ytghdeoeajbnfkaa.MapPair
attribute [local go_sem] max2_int min2_int max_two min_two
set_option linter.unusedSimpArgs false
set_option linter.unusedVariables false

theorem base_of {w w1 : World} {gm : Nat} {mm : Nat → Nat} {cs : List Cu} {OA AA : Option Addr} {n m oc ac : Nat} (hM : Mems w w1 gm mm) (hn : cs.length ≤ 12) (hok : ∀ x ∈ cs, x.ok)
    (ho : Kd.R slK 22 w1 w.heap.size (fun k => w.heap.size ≤ k) (.slice OA n oc) (cs.map (slOf mm))) (hne : ∀ i k, i < 3 → (Value.slice OA n oc).ownBlock = some k → k ≠ mm i) (ha : Kd.R cuK 47 w1 w.heap.size (fun k => w.heap.size ≤ k) (.slice AA m ac) cs) :
    n = cs.length ∧ m = cs.length ∧ ∃ gO, Base w1 OA AA oc ac gO mm cs := by
  obtain ⟨e1, e2, _⟩ := Kd.R_reads' ho
  obtain ⟨e3, e4, e5⟩ := Kd.R_reads' ha
  rw [List.length_map] at e1
  refine ⟨e1, e3, ?_⟩
  obtain ⟨gO, hr, hlt⟩ := rowAt_of ho
  rw [List.length_map] at hlt
  by_cases h0 : 0 < cs.length
  · refine ⟨gO, hr, fun x hx => cu_lies hM x (hok x hx), hok, e5, hn, by omega, hM.inj, fun i hi => ?_, (hlt h0).2⟩
    obtain ⟨s, hs, hh⟩ := hi
    obtain ⟨x, hx, rfl⟩ := List.mem_map.1 hs
    have hA := hr.A (by rw [List.length_map]; exact h0)
    exact hne x.m gO (hok x hx).1 (by rw [hA]; rfl) hh.1
  · have hcs : cs = [] := List.length_eq_zero_iff.1 (by omega)
    subst hcs
    exact ⟨gm, ⟨fun h => by simp at h, fun i s hi => by simp at hi⟩, fun x hx => by simp at hx, hok, e5, hn, by omega, hM.inj, fun i hi => by obtain ⟨s, hs, _⟩ := hi; simp at hs, hM.newg.2⟩

set_option maxHeartbeats 16000000 in
set_option maxRecDepth 100000 in
theorem watchSlices (LA : Option Addr) (ln lc : Nat) (T : Nat → Int × Int × Int) (OB : Option Addr) (on ob : Nat) (os : List Int) (w : World)
    (hl : (LA = none ∧ ln = 0 ∧ lc = 0) ∨ ∃ x, LA = some x ∧ ln ≤ lc ∧ ∀ i, i < ln → w.cell? (x.add (i * 3)) = some (.int .i64 (T i).1) ∧ w.cell? (x.add (i * 3 + 1)) = some (.int .i64 (T i).2.1) ∧ w.cell? (x.add (i * 3 + 2)) = some (.int .i64 (T i).2.2))
    (hln : ln ≤ lc ∧ lc ≤ 9223372036854775807) (ho : ReadsInt w .u8 OB on os) (hon : on ≤ 9223372036854775807) :
    Calls Try.prog 4 #[.slice LA ln lc, .slice OB on ob] w fun e w' => e = .returned (.bool true) ∧ Below w.heap.size w w' := by
  have HC := Aside0.mk (cuts LA ln lc T OB on ob os w hl hln ho hon)
  clear hl ho
  go_enter Try.func4, Try.ntmps4
  go_wp2_with fail
  refine HC.out.mono ?_
  rintro e w1 ⟨vo, va, cs, gm, mm, rfl, hM, hn12, hok, hne, hvo, hva⟩
  have HB1 := Aside0.mk hM.below
  obtain ⟨OA, oc, rfl⟩ := Kd.R_slice hvo
  obtain ⟨AA, ac, rfl⟩ := Kd.R_slice hva
  rw [List.length_map] at *
  obtain ⟨-, -, gO, hbase⟩ := base_of hM hn12 hok hvo hne hva
  have HZ := Aside0.mk hbase
  have hoc := hbase.oc_le
  clear HC hM hok hne hvo hva hbase
  generalize hn : cs.length = n at *
  have HN := Lib.hid hn
  have HNL := Lib.hid (show (cs.map (slOf mm)).length = n by rw [List.length_map, hn])
  clear hn
  go_wp2_with fail
  go_loopw [7, 9, 49] (fun v _ i wr => ∃ k : Nat, k ≤ n ∧ i = .int .i64 k ∧ Aside0 (Mid1 w1 wr (cs.map (slOf mm)) k v)) (fun _ _ i _ => n - (intOf i).toNat)
  case atStart => exact ⟨0, Nat.zero_le _, rfl, ⟨Below.refl _ _, Kd.R_nil _ _ _ _ _⟩⟩
  case round =>
    obtain ⟨k, hk, rfl, HD⟩ := hrel
    obtain ⟨w2, hw2⟩ : ∃ w2, w2 = wr := ⟨_, rfl⟩
    subst hw2
    by_cases hlt : k < n
    ·
      --[[
      as_aux_lemma =>
        have hkl : k < (cs.map (slOf mm)).length := by rw [HNL.out]; exact hlt
        have hrow := HZ.out.row.below HD.out.below
        have hA := hrow.A (by omega)
        subst hA
        have hcell := hrow.cell k (cs.map (slOf mm))[k] (List.getElem?_eq_getElem hkl)
        rw [Nat.zero_add] at hcell
        have hLk0 := HZ.out.liesAll (cs.map (slOf mm))[k] (List.getElem_mem _)
        have hLk := Lies.below hLk0 HD.out.below
        have hOk := octsOf_below hLk0 HD.out.below
        have hnul : ((cs.map (slOf mm))[k]).nul = false := by rw [List.getElem_map]; rfl
        have HK := Lib.hid hkl
        generalize hsk : (cs.map (slOf mm))[k] = sk at hcell hLk hOk hnul hLk0
        have HSK := Aside0.mk hsk
        have HLk := Aside0.mk hLk
        have HOk := Aside0.mk hOk
        have HNU := Aside0.mk hnul
        generalize hsv : sk.val = sv at hcell
        have HSV := Aside0.mk hsv
        clear hkl hrow hLk hOk hsk hsv hnul hLk0
        obtain ⟨A4, c4, rfl⟩ := HD.out.slice (by rw [HNL.out]; exact hk)
        go_wp2_with (first | (go_at_call 13; rw [← HSV.out]; refine (bclone sk _ HLk.out HNU.out).mono ?_; rintro e w3 ⟨v1, rfl, hv, hb⟩; obtain ⟨A1, c1, rfl⟩ := Kd.R_slice hv; have HV1 := Aside0.mk hv; have HBC := Aside0.mk hb; clear hv hb) | ((with_reducible refine gate_builtin (b := .append) (xs := #[.tmp 53, .tmp 56]) rfl ?_); at_builtin; refine Kd.R_append KL (w0 := w1) w1.heap.size rfl (.tmp 53) (.tmp 56) 31 22 (.slice none 0 0) 24 rfl Try.underlying31 info22 rfl (by decide) (by omega) _ (kept w1 ((cs.map (slOf mm)).take k)) (octsOf w2 sk) [.slice A1 (octsOf w2 sk).length c1] (fun j => w1.heap.size ≤ j) (fun j => w2.heap.size ≤ j) rfl rfl ?aP ?aK ?aF ?aO ?aB ?aS ?aL ?_; (case aP => exact ⟨_, rfl, Kd.R_lower HV1.out HD.out.below.size⟩); (case aK => exact (fun j hj => ⟨Nat.le_trans HD.out.below.size hj, fun e => absurd (Kd.R_lt HD.out.row _ e.symm) (by omega)⟩)); (case aF => exact (fun j hj => Nat.le_trans (Nat.le_trans HD.out.below.size HBC.out.size) hj)); (case aO => exact Kd.R_below HD.out.row HBC.out); (case aB => exact HD.out.below.trans (HBC.out.mono HD.out.below.size)); (case aS => exact Nat.le_trans HD.out.below.size HBC.out.size); (case aL => simp [kept]; omega); intro v1 w9 ho hb hg hat; have HO1 := Aside0.mk ho; have HB9 := Aside0.mk hb; clear ho hb hg hat))
        go_roundw
        case rel => exact ⟨k + 1, by omega, by go_num, ⟨Mid1.next HK.out HSK.out HOk.out HO1.out HB9.out⟩⟩
        case measure => simp [intOf]; omega
      --]]
    · have hkn : k = n := by omega
      obtain ⟨A4, c4, rfl⟩ := HD.out.slice (by rw [HNL.out]; exact hk)
      have hB2 := HD.out.below
      have hKE := HD.out.row
      rw [hkn, List.take_of_length_le (Nat.le_of_eq HNL.out)] at hKE
      have hZ2 := HZ.out.below hB2
      have HCH := Aside0.mk hZ2.chk
      go_wp2_with fail
      clear hlt hk
      generalize k = k49 at *
      -- Meets
      have h1 := meetsAll OA gO 0 oc (cs.map (slOf mm)) w2 hZ2.row hZ2.liesAll (by rw [HNL.out]; omega)
      rw [HNL.out, HCH.out] at h1
      refine h1.mono ?_
      rintro e w3 ⟨vp, op, rfl, hp, hop, -⟩
      obtain rfl := hop rfl
      have hZ3 := hZ2.below (hp.below)
      clear h1 hop
      obtain ⟨PA, pc, rfl⟩ := Kd.R_slice hp.row
      obtain ⟨-, hpc, hPC⟩ := Kd.R_reads' hp.row
      go_wp2_with fail
      -- Groups
      have h1 := groupsAll OA gO 0 oc (cs.map (slOf mm)) w3 hZ3.row hZ3.liesAll (by rw [HNL.out]; omega)
      rw [HNL.out, HCH.out] at h1
      refine h1.mono ?_
      rintro e w4 ⟨vg, ys, rfl, hb4, hg4⟩
      obtain ⟨⟨GA, gc, rfl, hgc, hG⟩, hLab⟩ := hg4 rfl
      have hZ4 := hZ3.below hb4
      clear h1 hg4
      go_wp2_with fail
      -- Cover
      have h1 := cover OA gO 0 oc (cs.map (slOf mm)) w4 hZ4.row hZ4.glt hZ4.out hZ4.liesAll (by rw [HNL.out]; omega)
      rw [HNL.out, HCH.out] at h1
      refine h1.mono ?_
      rintro e w5 ⟨ncv, rfl, hb5, hcv⟩
      replace hcv := hcv rfl
      have hZ5 := hZ4.below hb5
      clear h1
      go_wp2_with fail
      -- Fenced
      have h1 := fenced OA gO 0 oc (cs.map (slOf mm)) w5 hZ5.row (fun s hs => by
        obtain ⟨x, hx, rfl⟩ := List.mem_map.1 hs
        refine ⟨(hZ5.lies x hx).le, ?_⟩
        have := hZ5.ok x hx
        show x.room - x.f ≤ 1000000
        unfold Cu.room
        have := this.2.2
        split <;> omega) (by rw [HNL.out]; omega)
      rw [HNL.out, HCH.out] at h1
      refine h1.mono ?_
      rintro e w6 ⟨vf, of, rfl, hf, hof⟩
      obtain rfl := hof rfl
      have hZ6 := hZ5.below hf.below
      clear h1 hof
      obtain ⟨FA, fc, rfl⟩ := Kd.R_slice hf.row
      obtain ⟨-, hfc, hFC⟩ := Kd.R_reads' hf.row
      -- what stays
      have hB6 : Below w1.heap.size w1 w6 := hB2.trans ((hp.below.trans ((hb4.mono hp.below.size).trans ((hb5.mono (Nat.le_trans hp.below.size hb4.size)).trans (hf.below.mono (Nat.le_trans (Nat.le_trans hp.below.size hb4.size) hb5.size))))).mono hB2.size)
      have hb36 : Below w3.heap.size w3 w6 := hb4.trans ((hb5.trans (hf.below.mono hb5.size)).mono hb4.size)
      have HB6 := Aside0.mk hB6
      have HZ6 := Aside0.mk hZ6
      have HPC := Aside0.mk (Kd.C_below hPC hb36)
      have HG := Aside0.mk (hG.below (hb5.trans (hf.below.mono hb5.size)))
      have HLAB := Aside0.mk hLab
      have HCV := Lib.hid hcv
      have HFC := Aside0.mk hFC
      have HKE := Aside0.mk (Kd.R_below hKE (hp.below.trans (hb36.mono hp.below.size)))
      have hfl := fen_le (cs.map (slOf mm)) (cs.map (slOf mm)).length
      have HFL := Lib.hid hfl
      have HPL := Lib.hid (mall_le (cs.map (slOf mm)) (cs.map (slOf mm)).length)
      obtain ⟨zs, hzs, hzz, hmkI⟩ := makeInt n (by omega)
      have HZS := Aside0.mk hzz
      have hmkM : ∀ w : World, (Instr.makeMap 45 none).run Try.prog w = .ok (.map (some w.heap.size)) (w.alloc (.map #[] 0)) := fun w => by simp [Instr.makeMap, run_underlying Try.underlying45]
      clear hB2 hKE hZ2 hZ3 hZ4 hZ5 hZ6 hp hb4 hb5 hf hPC hG hLab hcv hFC hB6 hb36 hfl hzs hzz
      go_wp2_with fail
      have HE0 := Aside0.mk (EMid.start w6 n zs HZS.out)
      generalize hl : cs.map (slOf mm) = l at *
      have HL := Lib.hid hl
      generalize hr : w6.heap.size + 1 = r at HE0 ⊢
      generalize hgr : w6.heap.size = gr at HE0 ⊢
      have HGR := Lib.hid hgr
      clear hl hgr hr HZS hmkM hmkI
      go_loopw [18, 19, 22, 23, 24, 25, 26, 27, 28, 29, 30, 31, 32, 33, 34, 35, 106] (fun want tight _ _ _ _ _ _ _ _ _ _ _ _ _ _ ix wr => ∃ i : Nat, i ≤ n ∧ ix = .int .i64 i ∧ Aside0 (EMid w6 wr gr r n want tight (wall l i) (fen l i) (gAt n i) (pA cs i))) (fun _ _ _ _ _ _ _ _ _ _ _ _ _ _ _ _ ix _ => n - (intOf ix).toNat)
      case atStart => exact ⟨0, Nat.zero_le _, rfl, HE0⟩
      case round =>
        obtain ⟨i, hi, rfl, HD⟩ := hrel
        obtain ⟨w7, hw7⟩ : ∃ w7, w7 = wr := ⟨_, rfl⟩
        subst hw7
        by_cases hlt : i < n
        · obtain ⟨x, ad, hxi, hxm, hAA, hOA, c0, c1, c2, cR⟩ := HZ6.out.cut HD.out.below i (by rw [HN.out]; exact hlt)
          subst hAA hOA
          have HXI := Lib.hid hxi
          have HXM := Lib.hid hxm
          clear hxi hxm
          go_upto_region 21 with (fail)
          have hb7 : Below w7.heap.size w7 (w7.alloc (.cells #[.int .i64 x.m, .int .i64 x.f, .int .i64 x.t] 47)) := below_alloc (Below.refl _ _) _
          have hBX : BoxAt (w7.alloc (.cells #[.int .i64 x.m, .int .i64 x.f, .int .i64 x.t] 47)) w7.heap.size x := blk_new _ _
          have hE7 := HD.out.later hb7
          have hgrl : gr < w7.heap.size := HD.out.grN.2 (by omega)
          obtain ⟨g0, gf⟩ := hE7.grp i hlt
          have hEG := hE7.putG i (i : Int) hlt
          rw [gAt_set n i hlt] at hEG
          have hBG : BoxAt ((w7.alloc (.cells #[.int .i64 x.m, .int .i64 x.f, .int .i64 x.t] 47)).setCell ⟨gr, i, none⟩ (.int .i64 i)) w7.heap.size x := (Below.heap_setCell _ _ _ _ (by show w7.heap.size ≠ gr; omega)).trans hBX
          have HE2 := Aside0.mk (And.intro hEG hBG)
          clear hb7 hBX hE7 hEG hBG c0 c1 c2 cR
          generalize w7.alloc (.cells #[.int .i64 x.m, .int .i64 x.f, .int .i64 x.t] 47) = u1 at *
          generalize hB : w7.heap.size = B at *
          go_upto_region 22 with (fail)
          clear g0 gf
          generalize u1.setCell ⟨gr, i, none⟩ (.int .i64 i) = u2 at *
          obtain ⟨SA, hSA⟩ : ∃ SA, (slOf mm x).val = .slice SA (x.t - x.f) (x.room - x.f) := ⟨_, rfl⟩
          obtain ⟨sn, hsn⟩ : ∃ sn, sn = x.t - x.f := ⟨_, rfl⟩
          obtain ⟨sc, hsc⟩ : ∃ sc, sc = x.room - x.f := ⟨_, rfl⟩
          rw [← hsn, ← hsc] at hSA
          have hxo := HZ6.out.ok x HXM.out
          have hrm : x.t ≤ x.room ∧ x.room ≤ 60 := by
            have := hxo.2.2
            have := hxo.2.1
            unfold Cu.room
            split <;> omega
          have hss : sn ≤ sc ∧ sc ≤ 60 := by have := hxo.2.1; omega
          have hfen : fen l (i + 1) = if sc = sn then fen l i ++ [(i : Int)] else fen l i := by
            show (if (l.getD i sl0).c = (l.getD i sl0).n then fen l i ++ [(i : Int)] else fen l i) = _
            have e : l.getD i sl0 = slOf mm x := by rw [← HL.out, List.getD_eq_getElem?_getD, List.getElem?_map, HXI.out]; rfl
            rw [e, hsn, hsc]
            rfl
          have HSA := Aside0.mk hSA
          have HFEN := Lib.hid hfen
          have HSN := Lib.hid hsn
          have HXO := Aside0.mk hxo
          clear hSA hfen hsn hsc hxo hrm
          have cR : ∀ {wz : World}, Below w6.heap.size w6 wz → wz.cell? ⟨gO, i, none⟩ = some (.slice SA sn sc) := fun {wz} hb => by
            obtain ⟨x', _, hx', _, _, _, _, _, _, hc⟩ := HZ6.out.cut hb i (by rw [HN.out]; exact hlt)
            rw [HXI.out] at hx'
            cases hx'
            rw [hc, HSA.out]
          have HCR := Aside0.mk @cR
          clear cR
          go_cut [125] (fun v125 wc => v125 = .bool (decide (sc = sn)) ∧ Aside0 (EMid w6 wc gr r n u18 u19 (wall l i) (fen l i) (gAt n (i + 1)) (pA cs i) ∧ BoxAt wc B x))
          case first =>
            --[[
            as_aux_lemma =>
              have q0 := HCR.out HE2.out.1.below
              by_cases hq : sc = sn
              · have hqb : ((sc : Int) == (sn : Int)) = true := by simp [hq]
                have hqd : decide (sc = sn) = true := decide_eq_true hq
                have HQD := Lib.hid hqd
                clear hq hqd
                go_quiet (fail)
                go_wp2_with fail
                go_meet
                exact ⟨by rw [HQD.out], ⟨HE2.out.1.drewN _, HE2.out.2⟩⟩
              · have hqb : ((sc : Int) == (sn : Int)) = false := by simp; omega
                have hqd : decide (sc = sn) = false := decide_eq_false hq
                have HQD := Lib.hid hqd
                clear hq hqd
                go_quiet (fail)
                go_wp2_with fail
                go_meet
                exact ⟨by rw [HQD.out], ⟨HE2.out.1.drewN _, HE2.out.2⟩⟩
            --]]
          case rest =>
            obtain ⟨rfl, HE3⟩ := hcut
            clear HE2 hB
            go_upto_if 125 with (fail)
            go_cut [19] (fun v19 wz => Aside0 (EMid w6 wz gr r n u18 v19 (wall l i) (fen l (i + 1)) (gAt n (i + 1)) (pA cs i) ∧ BoxAt wz B x))
            case first =>
              --[[
              as_aux_lemma =>
                by_cases hq : sc = sn
                · have hqd : decide (sc = sn) = true := decide_eq_true hq
                  rw [hqd]
                  have HF2 := Lib.hid (show fen l (i + 1) = fen l i ++ [(i : Int)] by rw [HFEN.out, if_pos hq])
                  have hfl2 := fen_le l i
                  have HFL2 := Lib.hid (show ((fen l i).length + 1) * 8 ≤ 140737488355328 by omega)
                  clear hq hqd hfl2
                  go_wp2_with (first | ((with_reducible refine gate_builtin (b := .append) (xs := #[.tmp 126, .tmp 128]) rfl ?_); at_builtin; refine Kd.R_append kI (w0 := w6) w6.heap.size rfl (.tmp 126) (.tmp 128) 35 3 (.int .i64 0) 8 rfl Try.underlying35 infoInt rfl (by decide) (by omega) _ (fen l i) (i : Int) [.int .i64 (i : Int)] (fun k => w6.heap.size ≤ k ∧ k ≠ gr ∧ k ≠ r) (fun _ => False) rfl rfl ?aP (fun _ hk => hk.elim) ?aF ?aO ?aB ?aS ?aL ?_; (case aP => rfl); (case aF => exact (fun k hk => ⟨Nat.le_trans HE3.out.1.below.size hk, by have := HE3.out.1.grN.2 (by omega); omega, by have := HE3.out.1.map.lt; omega⟩)); (case aO => exact HE3.out.1.tight); (case aB => exact HE3.out.1.below); (case aS => exact HE3.out.1.below.size); (case aL => exact HFL2.out); intro v1 w9 ho hb hg hat; have HE4 := Aside0.mk (And.intro (HE3.out.1.addT ho hg) (HE3.out.2.keep hg (HE3.out.2.row_ne HE3.out.1.tight (by decide)))); clear ho hb hg hat))
                  go_meet
                  exact ⟨by rw [HF2.out]; exact HE4.out⟩
                · have hqd : decide (sc = sn) = false := decide_eq_false hq
                  rw [hqd]
                  have HF2 := Lib.hid (show fen l (i + 1) = fen l i by rw [HFEN.out, if_neg hq])
                  clear hq hqd
                  go_wp2_with fail
                  go_meet
                  exact ⟨by rw [HF2.out]; exact HE3.out⟩
              --]]
            case rest =>
              clear HE3
              obtain ⟨w8, hw8⟩ : ∃ w8, w8 = wc := ⟨_, rfl⟩
              subst hw8
              have HE3 := hcut
              clear hcut
              go_upto_region 24 with (fail)
              go_cut [146] (fun v146 wz => v146 = .bool false ∧ Aside0 (EMid w6 wz gr r n u18 u19 (wall l i) (fen l (i + 1)) (gAt n (i + 1)) (pA cs i) ∧ BoxAt wz B x))
              case first =>
                --[[
                as_aux_lemma =>
                  have q0 := HCR.out HE3.out.1.below
                  have hwr : IntKind.i64.wrap ((sc : Int) - (sn : Int)) = (sc : Int) - (sn : Int) := IntWalk.i64_in _ ⟨by omega, by omega⟩
                  go_quiet ((go_at_call 14; refine Calls.quiet_of_same (spare SA sn sc _ (by omega) hss.1)))
                  go_wp2_with fail
                  go_meet
                  exact ⟨rfl, ⟨HE3.out.1.drewN _, HE3.out.2⟩⟩
                --]]
              case rest =>
                obtain ⟨rfl, HE4⟩ := hcut
                clear HE3
                obtain ⟨w8, hw8⟩ : ∃ w8, w8 = wc := ⟨_, rfl⟩
                subst hw8
                have hxb := HXO.out
                have hx1 := hxb.1
                have hx2 := hxb.2.1
                have hx3 := hxb.2.2
                clear hxb
                obtain ⟨b0, b1, b2⟩ := HE4.out.2.cells
                have HPA := Aside0.mk (pA_next cs i x HXI.out)
                generalize hxm : x.m = xm at *
                generalize hxf : x.f = xf at *
                generalize hxt : x.t = xt at *
                have HXE := Lib.hid (And.intro hxm (And.intro hxf hxt))
                clear hxm hxf hxt
                go_wp2_with fail
                go_loopw [24] (fun kv wr => ∃ q : Nat, xf ≤ q ∧ q ≤ xt ∧ kv = .int .i64 q ∧ Aside0 (EMid w6 wr gr r n u18 u19 (wall l i) (fen l (i + 1)) (gAt n (i + 1)) (pS x (pA cs i) (q - xf)) ∧ BoxAt wr B x)) (fun kv _ => xt - (intOf kv).toNat)
                case atStart => exact ⟨xf, Nat.le_refl _, hx2, rfl, ⟨by rw [Nat.sub_self]; exact HE4.out⟩⟩
                case round =>
                  obtain ⟨q, hq1, hq2, rfl, HD3⟩ := hrel
                  by_cases hlt3 : q < xt
                  ·
                    --[[
                    as_aux_lemma =>
                      obtain ⟨d0, d1, d2⟩ := HD3.out.2.cells
                      rw [HXE.out.1] at d0
                      rw [HXE.out.2.1] at d1
                      rw [HXE.out.2.2] at d2
                      obtain ⟨wq, hup, hmq, hgq, hsq⟩ := run_update HD3.out.1.map HD3.out.1.fits (xm : Int) (q : Int) (small_wf xm (by omega)) (small_wf q (by omega))
                      have hfq := HD3.out.1.fits.put (xm : Int) (q : Int) (small_wf xm (by omega)) (small_wf q (by omega))
                      have hpS : pput (pS x (pA cs i) (q - xf)) xm q = pS x (pA cs i) (q + 1 - xf) := by
                        rw [show q + 1 - xf = (q - xf) + 1 by omega]
                        show _ = pput (pS x (pA cs i) (q - xf)) x.m ((x.f + (q - xf) : Nat) : Int)
                        rw [HXE.out.1, HXE.out.2.1, show xf + (q - xf) = q by omega]
                      have hup' : (Instr.mapUpdate 45 (.map (some r)) (.agg #[.int .i64 (xm : Int), .int .i64 (q : Int)]) (.bool true)).run Try.prog wr = .ok () wq := hup
                      have HNX := Aside0.mk (And.intro (HD3.out.1.putP hmq hfq hgq) (HD3.out.2.keep hgq (fun e => by
                        injection e with e
                        have h1 := HD3.out.2
                        obtain ⟨es, cl, hb9, _⟩ := HD3.out.1.map
                        unfold BoxAt at h1
                        rw [← e, hb9] at h1
                        injection h1 with h1
                        cases h1)))
                      rw [hpS] at HNX
                      clear hup hmq hgq hsq hfq hpS
                      go_wp2
                      go_roundw
                      case rel => exact ⟨q + 1, by omega, by omega, by go_num, HNX⟩
                      case measure => simp [intOf]; omega
                    --]]
                  · have hqt : q = xt := by omega
                    obtain ⟨d0, d1, d2⟩ := HD3.out.2.cells
                    rw [HXE.out.2.2] at d2
                    have hE5 := HD3.out
                    rw [hqt, ← HPA.out] at hE5
                    have HE5 := Aside0.mk hE5
                    clear HD3 hE5 hqt
                    obtain ⟨w9, hw9⟩ : ∃ w9, w9 = wr := ⟨_, rfl⟩
                    subst hw9
                    go_wp2_with fail
                    go_loopw [18, 25, 26, 27, 28, 29, 30, 31, 32, 33, 34, 35, 162] (fun want _ _ _ _ _ _ _ _ _ _ _ kx wr => ∃ k : Nat, k ≤ n ∧ kx = .int .i64 k ∧ Aside0 (EMid w6 wr gr r n want u19 (wrow l i (wall l i) k) (fen l (i + 1)) (gAt n (i + 1)) (pA cs (i + 1)) ∧ BoxAt wr B x)) (fun _ _ _ _ _ _ _ _ _ _ _ _ kx _ => n - (intOf kx).toNat)
                    case atStart => exact ⟨0, Nat.zero_le _, rfl, HE5⟩
                    case round =>
                      obtain ⟨k, hk4, rfl, HD4⟩ := hrel
                      obtain ⟨w10, hw10⟩ : ∃ w10, w10 = wr := ⟨_, rfl⟩
                      subst hw10
                      by_cases hlt4 : k < n
                      · obtain ⟨y, ad', hyi, hym, hAA', _, e0, e1, e2, _⟩ := HZ6.out.cut HD4.out.1.below k (by rw [HN.out]; exact hlt4)
                        injection hAA' with hAA'
                        subst hAA'
                        have HYM := Lib.hid hym
                        have HYI := Lib.hid hyi
                        obtain ⟨f0, f1, f2⟩ := HD4.out.2.cells
                        rw [HXE.out.1] at f0
                        rw [HXE.out.2.1] at f1
                        rw [HXE.out.2.2] at f2
                        have hyo := HZ6.out.ok y hym
                        have hy1 := hyo.1
                        have hy2 := hyo.2.1
                        have hy3 := hyo.2.2
                        have hovr := ovr_cuts mm HZ6.out.inj x y HXO.out hyo
                        have hsam := sam_cuts mm HZ6.out.inj x y HXO.out hyo
                        have hmee : mee l i k = decide (0 < (ovr (slOf mm x) (slOf mm y)).2.2) := by
                          unfold mee
                          have q1 : l.getD i sl0 = slOf mm x := by rw [← HL.out, List.getD_eq_getElem?_getD, List.getElem?_map, HXI.out]; rfl
                          have q2 : l.getD k sl0 = slOf mm y := by rw [← HL.out, List.getD_eq_getElem?_getD, List.getElem?_map, HYI.out]; rfl
                          rw [q1, q2]
                        have hck := HZ6.out.chk2 HXM.out hym
                        rw [HXE.out.1, HXE.out.2.1, HXE.out.2.2] at hovr
                        rw [HXE.out.2.1, HXE.out.2.2] at hsam
                        clear hyo hym hyi
                        have HLX := Aside0.mk (HZ6.out.lies x HXM.out)
                        have HLY := Aside0.mk (HZ6.out.lies y HYM.out)
                        have cT : ∀ {wz : World}, Below w6.heap.size w6 wz → wz.cell? ⟨gO, k, none⟩ = some (slOf mm y).val := fun {wz} hb => by
                          obtain ⟨x', _, hx', _, _, _, _, _, _, hc⟩ := HZ6.out.cut hb k (by rw [HN.out]; exact hlt4)
                          rw [HYI.out] at hx'
                          cases hx'
                          exact hc
                        have HCT := Aside0.mk @cT
                        clear cT
                        obtain ⟨TA, tn, tc, hTA⟩ : ∃ A n c, (slOf mm y).val = .slice A n c := ⟨_, _, _, rfl⟩
                        rw [hTA] at HCT
                        have HTA := Aside0.mk hTA
                        clear hTA
                        generalize hym' : y.m = ym at *
                        generalize hyf' : y.f = yf at *
                        generalize hyt' : y.t = yt at *
                        have HYE := Lib.hid (And.intro hym' (And.intro hyf' hyt'))
                        clear hym' hyf' hyt'
                        generalize hro : ovr (slOf mm x) (slOf mm y) = ro at *
                        obtain ⟨r1, r2, r3⟩ := ro
                        dsimp only at hsam hmee
                        have HRO := Aside0.mk hro
                        have HSM := Aside0.mk hsam
                        have HME := Aside0.mk hmee
                        have HCK := Aside0.mk hck
                        have HOV := Aside0.mk hovr
                        clear hro hsam hmee hck hovr
                        go_upto_region 33 with (fail)
                        have hb7 : Below w10.heap.size w10 (w10.alloc (.cells #[.int .i64 ym, .int .i64 yf, .int .i64 yt] 47)) := below_alloc (Below.refl _ _) _
                        have hBY : BoxAt (w10.alloc (.cells #[.int .i64 ym, .int .i64 yf, .int .i64 yt] 47)) w10.heap.size y := by
                          unfold BoxAt
                          rw [HYE.out.1, HYE.out.2.1, HYE.out.2.2]
                          exact blk_new _ _
                        have HE6 := Aside0.mk (And.intro (HD4.out.1.later hb7) (And.intro (HD4.out.2.later hb7) hBY))
                        clear hb7 hBY e0 e1 e2 f0 f1 f2
                        generalize w10.alloc (.cells #[.int .i64 ym, .int .i64 yf, .int .i64 yt] 47) = u1 at *
                        generalize hB2 : w10.heap.size = B2 at *
                        clear hB2 HD4
                        obtain ⟨f0, f1, f2⟩ := HE6.out.2.1.cells
                        rw [HXE.out.1] at f0
                        rw [HXE.out.2.1] at f1
                        rw [HXE.out.2.2] at f2
                        obtain ⟨g0, g1, g2⟩ := HE6.out.2.2.cells
                        rw [HYE.out.1] at g0
                        rw [HYE.out.2.1] at g1
                        rw [HYE.out.2.2] at g2
                        go_wp2_with (first | (go_at_call 15; refine (cornlaw2_shared.calls _ _ _ _ _ _ r1 r2 r3 _ HOV.out).mono ?_; rintro e u2 ⟨rfl, hb⟩; have HE7 := Aside0.mk (And.intro (HE6.out.1.later hb) (And.intro (HE6.out.2.1.later hb) (HE6.out.2.2.later hb))); clear hb))
                        clear HE6 f0 f1 f2 g0 g1 g2
                        go_cut [30, 31, 32, 33] (fun z30 z31 z32 z33 wc => z30 = .int .i64 r1 ∧ z31 = .int .i64 r2 ∧ z32 = .int .i64 r3 ∧ z33 = .int .i64 0 ∧ Aside0 (EMid w6 wc gr r n u18 u19 (wrow l i (wall l i) k) (fen l (i + 1)) (gAt n (i + 1)) (pA cs (i + 1)) ∧ BoxAt wc B x ∧ BoxAt wc B2 y))
                        case first =>
                          --[[
                          as_aux_lemma =>
                            have q1 := HCR.out HE7.out.1.below
                            have q2 := HCT.out HE7.out.1.below
                            have hov := overlapAll (slOf mm x) (slOf mm y) u2.drew (Lies.below HLX.out HE7.out.1.below.drew) (Lies.below HLY.out HE7.out.1.below.drew)
                            rw [HCK.out, HRO.out] at hov
                            have HOA := Aside0.mk hov
                            clear hov
                            go_region_held3 (fun w' => w'.cell? ⟨gO, i, none⟩ = some (.slice SA sn sc) ∧ w'.cell? ⟨gO, k, none⟩ = some (.slice TA tn tc)) (first | exact ⟨q1, q2⟩ | exact ⟨HCR.out HE8.out.1.below, HCT.out HE8.out.1.below⟩) ((go_at_call 5; rw [← HSA.out, ← HTA.out]; refine HOA.out.mono ?_; rintro e wz ⟨⟨s1, s2, s3, rfl, hs⟩, hb⟩; have hs' := hs rfl; simp only [Prod.mk.injEq] at hs'; obtain ⟨rfl, rfl, rfl⟩ := hs'; have HE8 := Aside0.mk (And.intro (HE7.out.1.drew.later hb) (And.intro ((show BoxAt (World.drew _) B x from HE7.out.2.1).later hb) ((show BoxAt (World.drew _) B2 y from HE7.out.2.2).later hb))); clear hb hs))
                            go_wp2_with fail
                            go_meet
                            exact ⟨rfl, rfl, rfl, rfl, HE8⟩
                          --]]
                        case rest =>
                          obtain ⟨rfl, rfl, rfl, rfl, HE8⟩ := hcut
                          clear HE7
                          obtain ⟨u3, hu3⟩ : ∃ u3, u3 = wc := ⟨_, rfl⟩
                          subst hu3
                          go_upto_region 37 with (fail)
                          go_cut [33, 34] (fun z33 z34 wc => z33 = .int .i64 0 ∧ z34 = .bool (sam (slOf mm x) (slOf mm y)) ∧ Aside0 (EMid w6 wc gr r n u18 u19 (wrow l i (wall l i) k) (fen l (i + 1)) (gAt n (i + 1)) (pA cs (i + 1)) ∧ BoxAt wc B x ∧ BoxAt wc B2 y))
                          case first =>
                            --[[
                            as_aux_lemma =>
                              have q1 := HCR.out HE8.out.1.below
                              have q2 := HCT.out HE8.out.1.below
                              have hov := sameAll (slOf mm x) (slOf mm y) u3.drew (Lies.below HLX.out HE8.out.1.below.drew) (Lies.below HLY.out HE8.out.1.below.drew)
                              rw [HCK.out] at hov
                              have HOA := Aside0.mk hov
                              clear hov
                              go_region_held3 (fun w' => w'.cell? ⟨gO, i, none⟩ = some (.slice SA sn sc) ∧ w'.cell? ⟨gO, k, none⟩ = some (.slice TA tn tc)) (first | exact ⟨q1, q2⟩ | exact ⟨HCR.out HE9.out.1.below, HCT.out HE9.out.1.below⟩) ((go_at_call 6; rw [← HSA.out, ← HTA.out]; refine HOA.out.mono ?_; rintro e wz ⟨⟨s1, rfl, hs⟩, hb⟩; have hs' := hs rfl; subst hs'; have HE9 := Aside0.mk (And.intro (HE8.out.1.drew.later hb) (And.intro ((show BoxAt (World.drew _) B x from HE8.out.2.1).later hb) ((show BoxAt (World.drew _) B2 y from HE8.out.2.2).later hb))); clear hb hs))
                              go_wp2_with fail
                              go_meet
                              exact ⟨rfl, rfl, HE9⟩
                            --]]
                          case rest =>
                            obtain ⟨rfl, rfl, HE9⟩ := hcut
                            clear HE8
                            obtain ⟨u4', hu4⟩ : ∃ u4', u4' = wc := ⟨_, rfl⟩
                            subst hu4
                            go_upto_region 38 with (fail)
                            go_cut [34, 242] (fun _ z242 wc => z242 = .bool false ∧ Aside0 (EMid w6 wc gr r n u18 u19 (wrow l i (wall l i) k) (fen l (i + 1)) (gAt n (i + 1)) (pA cs (i + 1)) ∧ BoxAt wc B x ∧ BoxAt wc B2 y))
                            case first =>
                              --[[
                              as_aux_lemma =>
                                have hsm := HSM.out
                                obtain ⟨f0, f1, f2⟩ := HE9.out.2.1.cells
                                rw [HXE.out.1] at f0
                                rw [HXE.out.2.1] at f1
                                rw [HXE.out.2.2] at f2
                                obtain ⟨g0, g1, g2⟩ := HE9.out.2.2.cells
                                rw [HYE.out.1] at g0
                                rw [HYE.out.2.1] at g1
                                rw [HYE.out.2.2] at g2
                                by_cases hA : (xt : Int) - xf = (yt : Int) - yf
                                · have hA1 : ((xt : Int) - xf == (yt : Int) - yf) = true := by simpa using hA
                                  by_cases hB : r3 = (xt : Int) - xf
                                  · have hB1 : (r3 == (xt : Int) - xf) = true := by simpa using hB
                                    rw [decide_eq_true hA, decide_eq_true hB] at hsm
                                    rw [hsm]
                                    clear hA hB hsm
                                    go_wp2_with fail
                                    go_meet
                                    exact ⟨rfl, HE9⟩
                                  · have hB1 : (r3 == (xt : Int) - xf) = false := by simpa using hB
                                    rw [decide_eq_true hA, decide_eq_false hB] at hsm
                                    rw [hsm]
                                    clear hA hB hsm
                                    go_wp2_with fail
                                    go_meet
                                    exact ⟨rfl, HE9⟩
                                · have hA1 : ((xt : Int) - xf == (yt : Int) - yf) = false := by simpa using hA
                                  rw [decide_eq_false hA, Bool.false_and] at hsm
                                  rw [hsm]
                                  clear hA hsm
                                  go_wp2_with fail
                                  go_meet
                                  exact ⟨rfl, HE9⟩
                              --]]
                            case rest =>
                              obtain ⟨rfl, HE10⟩ := hcut
                              clear HE9
                              obtain ⟨u5', hu5⟩ : ∃ u5', u5' = wc := ⟨_, rfl⟩
                              subst hu5
                              obtain ⟨D, hD⟩ : ∃ D, D = difs (octsOf w6 (slOf mm x)) (octsOf w6 (slOf mm y)) (slOf mm x).n (slOf mm y).n (max (slOf mm x).n (slOf mm y).n) := ⟨_, rfl⟩
                              have hDl : D.length ≤ 1000000 := by
                                have h1 := difs_le (octsOf w6 (slOf mm x)) (octsOf w6 (slOf mm y)) (slOf mm x).n (slOf mm y).n (max (slOf mm x).n (slOf mm y).n)
                                have h2 := HLX.out.small
                                have h3 := HLY.out.small
                                rw [hD]
                                omega
                              have HDD := Aside0.mk hD
                              have HDL := Lib.hid hDl
                              clear hD hDl
                              go_upto_region 40 with (fail)
                              go_cut [33, 35] (fun z33 z35 wc => z33 = .int .i64 0 ∧ (∃ DA dc, z35 = .slice DA D.length dc ∧ D.length ≤ dc ∧ Aside0 (Kd.C kSp wc DA D.length D)) ∧ Aside0 (EMid w6 wc gr r n u18 u19 (wrow l i (wall l i) k) (fen l (i + 1)) (gAt n (i + 1)) (pA cs (i + 1)) ∧ BoxAt wc B x ∧ BoxAt wc B2 y))
                              case first =>
                                --[[
                                as_aux_lemma =>
                                  have q1 := HCR.out HE10.out.1.below
                                  have q2 := HCT.out HE10.out.1.below
                                  have hov := diff (slOf mm x) (slOf mm y) u5'.drew (Lies.below HLX.out HE10.out.1.below.drew) (Lies.below HLY.out HE10.out.1.below.drew)
                                  rw [HCK.out, octsOf_below HLX.out HE10.out.1.below.drew, octsOf_below HLY.out HE10.out.1.below.drew, ← HDD.out] at hov
                                  have HOA := Aside0.mk hov
                                  clear hov
                                  go_region_held3 (fun w' => w'.cell? ⟨gO, i, none⟩ = some (.slice SA sn sc) ∧ w'.cell? ⟨gO, k, none⟩ = some (.slice TA tn tc)) (first | exact ⟨q1, q2⟩ | exact ⟨HCR.out HE11.out.1.below, HCT.out HE11.out.1.below⟩) ((go_at_call 7; rw [← HSA.out, ← HTA.out]; refine HOA.out.mono ?_; rintro e wz ⟨v1, o1, rfl, hdm, hs⟩; obtain rfl := hs rfl; have hb := hdm.below; obtain ⟨DA, dc, rfl⟩ := Kd.R_slice hdm.row; have hrr := Kd.R_reads' hdm.row; have HRR := Aside0.mk hrr; have HE11 := Aside0.mk (And.intro (HE10.out.1.drew.later hb) (And.intro ((show BoxAt (World.drew _) B x from HE10.out.2.1).later hb) ((show BoxAt (World.drew _) B2 y from HE10.out.2.2).later hb))); clear hb hs hdm hrr))
                                  go_wp2_with fail
                                  go_meet
                                  exact ⟨rfl, ⟨DA, dc, rfl, HRR.out.2.1, ⟨HRR.out.2.2⟩⟩, HE11⟩
                                --]]
                              case rest =>
                                obtain ⟨rfl, ⟨DA, dc, rfl, hDc, HDC⟩, HE11⟩ := hcut
                                clear HE10
                                obtain ⟨u6', hu6⟩ : ∃ u6', u6' = wc := ⟨_, rfl⟩
                                subst hu6
                                go_upto_region 41 with (fail)
                                go_cut [270] (fun z270 wc => z270 = .bool false ∧ Aside0 (EMid w6 wc gr r n u18 u19 (wrow l i (wall l i) k) (fen l (i + 1)) (gAt n (i + 1)) (pA cs (i + 1)) ∧ BoxAt wc B x ∧ BoxAt wc B2 y))
                                case first =>
                                  --[[
                                  as_aux_lemma =>
                                    have q1 := HCR.out HE11.out.1.below
                                    have q2 := HCT.out HE11.out.1.below
                                    have hov := diffOf (slOf mm x) (slOf mm y) u6'.drew (Lies.below HLX.out HE11.out.1.below.drew) (Lies.below HLY.out HE11.out.1.below.drew)
                                    rw [octsOf_below HLX.out HE11.out.1.below.drew, octsOf_below HLY.out HE11.out.1.below.drew, ← HDD.out] at hov
                                    have HOA := Aside0.mk hov
                                    clear hov
                                    go_region_held3 (fun w' => w'.cell? ⟨gO, i, none⟩ = some (.slice SA sn sc) ∧ w'.cell? ⟨gO, k, none⟩ = some (.slice TA tn tc)) (first | exact ⟨q1, q2⟩ | exact ⟨HCR.out HE13.out.1.below, HCT.out HE13.out.1.below⟩ | exact ⟨HCR.out HE12.out.1.below, HCT.out HE12.out.1.below⟩) (first | (go_at_call 17; rw [← HSA.out, ← HTA.out]; refine HOA.out.mono ?_; rintro e wz ⟨v1, rfl, hdm⟩; have hb := hdm.below; obtain ⟨EA, ec, rfl⟩ := Kd.R_slice hdm.row; have hrr := Kd.R_reads' hdm.row; have HRR := Aside0.mk hrr; have HC0 := Aside0.mk (Kd.C_below HDC.out ((below_drew (Below.refl _ _)).trans hb)); have HE12 := Aside0.mk (And.intro (HE11.out.1.drew.later hb) (And.intro ((show BoxAt (World.drew _) B x from HE11.out.2.1).later hb) ((show BoxAt (World.drew _) B2 y from HE11.out.2.2).later hb))); clear hb hdm hrr) | (go_at_call 16; refine (spansEq HC0.out HRR.out.2.2 rfl rfl hDc HRR.out.2.1 HDL.out).mono ?_; rintro e wy ⟨rfl, ⟨dm, rfl⟩⟩; have HE13 := Aside0.mk (And.intro (HE12.out.1.drewN dm) (And.intro HE12.out.2.1 HE12.out.2.2))))
                                    go_wp2_with fail
                                    go_meet
                                    exact ⟨rfl, HE13⟩
                                  --]]
                                case rest =>
                                  obtain ⟨rfl, HE13⟩ := hcut
                                  clear HE11 HDC
                                  obtain ⟨u7', hu7⟩ : ∃ u7', u7' = wc := ⟨_, rfl⟩
                                  subst hu7
                                  go_upto_region 43 with (fail)
                                  have hstep : wrow l i (wall l i) (k + 1) = if i < k ∧ mee l i k = true then wrow l i (wall l i) k ++ [⟨i, k⟩] else wrow l i (wall l i) k := rfl
                                  have hwl : (wrow l i (wall l i) k).length ≤ 1000 := by
                                    have h1 := wrow_le l i (wall l i) k
                                    have h2 := wall_le l i
                                    rw [HNL.out] at h2
                                    have h3 : i * n ≤ 12 * 12 := Nat.mul_le_mul (by omega) (by omega)
                                    omega
                                  rw [HME.out] at hstep
                                  by_cases hik : i < k
                                  · by_cases hr3 : 0 < r3
                                    · rw [decide_eq_true hr3, if_pos ⟨hik, rfl⟩] at hstep
                                      have HST := Lib.hid hstep
                                      have HWL := Lib.hid (show ((wrow l i (wall l i) k).length + 1) * 16 ≤ 140737488355328 by omega)
                                      clear hstep hwl
                                      generalize wrow l i (wall l i) k = out at *
                                      --[[
                                      as_aux_lemma =>
                                        go_wp2_with (first | ((with_reducible refine gate_builtin (b := .append) (xs := #[.tmp 278, .tmp 282]) rfl ?_); at_builtin; refine Kd.R_append kPr (w0 := w6) w6.heap.size rfl (.tmp 278) (.tmp 282) 32 57 (.agg #[(.int .i64 0), (.int .i64 0)]) 16 rfl Try.underlying32 infoPr rfl (by decide) (by omega) _ out (⟨(i : Int), (k : Int)⟩ : Pr) [.int .i64 (i : Int), .int .i64 (k : Int)] (fun q => w6.heap.size ≤ q ∧ q ≠ gr ∧ q ≠ r) (fun _ => False) rfl rfl ?aP (fun _ hk => hk.elim) ?aF ?aO ?aB ?aS ?aL ?_; (case aP => exact k57_mkM _ _ _ _); (case aF => exact (fun q hq => ⟨Nat.le_trans HE13.out.1.below.size hq, by have := HE13.out.1.grN.2 (by omega); omega, by have := HE13.out.1.map.lt; omega⟩)); (case aO => exact HE13.out.1.want); (case aB => exact HE13.out.1.below); (case aS => exact HE13.out.1.below.size); (case aL => exact HWL.out); intro v1 w99 ho hb hg hat; have HE14 := Aside0.mk (And.intro (HE13.out.1.addW ho hg) (HE13.out.2.1.keep hg (HE13.out.2.1.row_ne HE13.out.1.want (by decide)))); clear ho hb hg hat))
                                        go_roundw
                                        case rel => exact ⟨k + 1, by omega, by go_num, ⟨by rw [HST.out]; exact HE14.out⟩⟩
                                        case measure => simp [intOf]; omega
                                      --]]
                                    · rw [decide_eq_false hr3, if_neg (fun h => by have := h.2; cases this)] at hstep
                                      have HST := Lib.hid hstep
                                      have HE14 := Aside0.mk (And.intro HE13.out.1 HE13.out.2.1)
                                      clear hstep hwl
                                      --[[
                                      as_aux_lemma =>
                                        go_wp2_with fail
                                        go_roundw
                                        case rel => exact ⟨k + 1, by omega, by go_num, ⟨by rw [HST.out]; exact HE14.out⟩⟩
                                        case measure => simp [intOf]; omega
                                      --]]
                                  · rw [if_neg (fun h => hik h.1)] at hstep
                                    have HST := Lib.hid hstep
                                    have HE14 := Aside0.mk (And.intro HE13.out.1 HE13.out.2.1)
                                    clear hstep hwl
                                    --[[
                                    as_aux_lemma =>
                                      go_wp2_with fail
                                      go_roundw
                                      case rel => exact ⟨k + 1, by omega, by go_num, ⟨by rw [HST.out]; exact HE14.out⟩⟩
                                      case measure => simp [intOf]; omega
                                    --]]
                      · have hkn4 : wrow l i (wall l i) k = wall l (i + 1) := by
                          rw [show k = l.length by rw [HNL.out]; omega]
                          rfl
                        have hE15 := HD4.out.1
                        rw [hkn4] at hE15
                        have HE15 := Aside0.mk hE15
                        clear hE15 hkn4 HD4
                        --[[
                        as_aux_lemma =>
                          go_wp2_with fail
                          go_roundw
                          case rel => exact ⟨i + 1, by omega, by go_num, HE15⟩
                          case measure => simp [intOf]; omega
                        --]]
        · as_aux_lemma =>
            have hin : i = n := by omega
            have hE := HD.out
            rw [hin, wall_eq l n (Nat.le_of_eq HNL.out.symm), gAt_all] at hE
            have hLAB := HLAB.out
            have hpin : PIn (mall l n) n := by
              have h := mall_pin l
              rwa [HNL.out] at h
            have hpnat : ∀ p ∈ mall l n, ∃ a b : Nat, p = ⟨a, b⟩ ∧ a < n ∧ b < n ∧ a ≠ b := fun p hp => by
              obtain ⟨a, b, h1, h2, h3, _, h5⟩ := (mall_mem l p n (Nat.le_of_eq HNL.out.symm)).1 hp
              exact ⟨a, b, h5, h1, by rw [HNL.out] at h3; exact h3, by omega⟩
            have hend := rounds_end hLAB hpin
            have HPN := Aside0.mk hpnat
            have HEND := Lib.hid hend
            have hpl : (mall l n).length ≤ 1000000 := by
              have h1 := HPL.out
              rw [HNL.out] at h1
              have h3 : n * n ≤ 12 * 12 := Nat.mul_le_mul hn12 hn12
              omega
            have HPLN := Lib.hid hpl
            clear hpl hpnat hpin hend hLAB
            generalize hps : mall l n = ps at *
            have HFL9 := Lib.hid (show (fen l n).length ≤ 1000000 by have := fen_le l n; omega)
            generalize fen l n = fl at *
            have hln := cells_len (Cells.all HZ.out.inj cs HZ.out.ok cs.length (Nat.le_refl _))
            rw [HN.out, HL.out] at hln
            have HLEN := Lib.hid hln
            clear hln
            generalize (covA l n).length = cvn at *
            obtain ⟨WA, wcp, hu18⟩ := Kd.R_slice hE.want
            subst hu18
            have HE := Aside0.mk hE
            clear hE HD
            go_wp2_with fail
            clear hlt hin hi
            generalize i = i106 at *
            go_loopw [37, 38, 288] (fun _ _ tx wr => ∃ t : Nat, t ≤ n ∧ tx = .int .i64 t ∧ Aside0 (EMid w6 wr gr r n (.slice WA ps.length wcp) u19 ps fl (lrounds ps (ids n) t) (pA cs n))) (fun _ _ tx _ => n - (intOf tx).toNat)
            case atStart => exact ⟨0, Nat.zero_le _, rfl, HE⟩
            case round =>
              obtain ⟨t, ht, rfl, HD⟩ := hrel
              by_cases hlt5 : t < n
              · go_wp2_with fail
                go_loopw [37, 38, 292] (fun _ _ kx wr => ∃ k : Nat, k ≤ ps.length ∧ kx = .int .i64 k ∧ Aside0 (EMid w6 wr gr r n (.slice WA ps.length wcp) u19 ps fl (lfold ps (lrounds ps (ids n) t) k) (pA cs n))) (fun _ _ kx _ => ps.length - (intOf kx).toNat)
                case atStart => exact ⟨0, Nat.zero_le _, rfl, HD⟩
                case round =>
                  obtain ⟨k, hk6, rfl, HD2⟩ := hrel
                  by_cases hlt6 : k < ps.length
                  · have hkb : k ≤ 1000000 := by have := HPLN.out; omega
                    obtain ⟨-, -, hC⟩ := Kd.R_reads' HD2.out.want
                    obtain ⟨pad, hWA, c0, c1⟩ := PWatchSlices.at_T57 hC (k : Int) (by omega) (by omega)
                    subst hWA
                    rw [Int.toNat_natCast] at c0 c1
                    have hrd : ps[k]? = some (PWatchSlices.rd_T57 ps (k : Int)) := by
                      unfold PWatchSlices.rd_T57
                      rw [Int.toNat_natCast, List.getD_eq_getElem?_getD]
                      simp [hlt6]
                    generalize PWatchSlices.rd_T57 ps (k : Int) = p at c0 c1 hrd
                    obtain ⟨a, b, rfl, ha, hb, hab⟩ := HPN.out p (List.mem_of_getElem? hrd)
                    have hnext := lfold_next ps (lrounds ps (ids n) t) k _ hrd
                    generalize lfold ps (lrounds ps (ids n) t) k = G at *
                    have HNXT := Lib.hid hnext
                    clear hC hrd hnext
                    dsimp only at c0 c1
                    go_upto_region 52 with (fail)
                    have hb7 : Below wr.heap.size wr (wr.alloc (.cells #[.int .i64 (a : Int), .int .i64 (b : Int)] 57)) := below_alloc (Below.refl _ _) _
                    have hBP : PBox (wr.alloc (.cells #[.int .i64 (a : Int), .int .i64 (b : Int)] 57)) wr.heap.size a b := blk_new _ _
                    have HE6 := Aside0.mk (And.intro (HD2.out.later hb7) hBP)
                    have hgrB : gr < wr.heap.size := HD2.out.grN.2 (by omega)
                    clear hb7 hBP c0 c1
                    generalize wr.alloc (.cells #[.int .i64 (a : Int), .int .i64 (b : Int)] 57) = u1 at *
                    generalize hB : wr.heap.size = B at *
                    obtain ⟨m, hm⟩ : ∃ m, m = (if G.getD b 0 < G.getD a 0 then G.getD b 0 else G.getD a 0) := ⟨_, rfl⟩
                    have hls : lstep G ⟨(a : Int), (b : Int)⟩ = (G.set a m).set b m := by
                      unfold lstep lab
                      simp only [Int.toNat_natCast]
                      rw [← hm]
                    have HLS := Lib.hid hls
                    have HMM := Lib.hid hm
                    clear hls hm
                    go_cut [38] (fun z38 wc => z38 = .int .i64 m ∧ Aside0 (EMid w6 wc gr r n (.slice (some pad) ps.length wcp) u19 ps fl G (pA cs n) ∧ PBox wc B a b))
                    case first =>
                      obtain ⟨f0, f1⟩ := HE6.out.2.cells
                      obtain ⟨g0, _⟩ := HE6.out.1.grp a ha
                      obtain ⟨g1, _⟩ := HE6.out.1.grp b hb
                      have hmm := HMM.out.symm
                      generalize G.getD a 0 = va at *
                      generalize G.getD b 0 = vb at *
                      go_quiet (fail)
                      go_wp2_with fail
                      go_meet
                      exact ⟨rfl, ⟨HE6.out.1.drewN _, HE6.out.2⟩⟩
                    case rest =>
                      obtain ⟨rfl, HE7⟩ := hcut
                      clear HE6
                      obtain ⟨u2, hu2⟩ : ∃ u2, u2 = wc := ⟨_, rfl⟩
                      subst hu2
                      go_upto_region 53 with (fail)
                      obtain ⟨f0, f1⟩ := HE7.out.2.cells
                      obtain ⟨g0, gf0⟩ := HE7.out.1.drew.grp a ha
                      obtain ⟨g1, gf1⟩ := HE7.out.1.drew.grp b hb
                      have hE8 := HE7.out.1.drew.putG a m ha
                      obtain ⟨k1, kf1⟩ := hE8.grp b hb
                      have k1' : (u2.setCell ⟨gr, a, none⟩ (.int .i64 m)).drew.cell? ⟨gr, b, none⟩ = some (.int .i64 ((G.set a m).getD b 0)) := k1
                      have kf1' : (u2.setCell ⟨gr, a, none⟩ (.int .i64 m)).drew.frozen? ⟨gr, b, none⟩ = false := kf1
                      have hbx : ∀ (q : Nat) (v : Value) (w0 : World), (w0.setCell ⟨gr, q, none⟩ v).cell? ⟨B, 0, none⟩ = w0.cell? ⟨B, 0, none⟩ ∧ (w0.setCell ⟨gr, q, none⟩ v).cell? ⟨B, 1, none⟩ = w0.cell? ⟨B, 1, none⟩ := fun q v w0 => ⟨World.cell?_setCell_far _ _ _ _ (show gr ≠ B by omega), World.cell?_setCell_far _ _ _ _ (show gr ≠ B by omega)⟩
                      have t1 : (u2.drew.setCell ⟨gr, a, none⟩ (.int .i64 m)).cell? ⟨B, 0, none⟩ = some (.int .i64 (a : Int)) ∧ (u2.drew.setCell ⟨gr, a, none⟩ (.int .i64 m)).cell? ⟨B, 1, none⟩ = some (.int .i64 (b : Int)) := ⟨(hbx _ _ _).1.trans f0, (hbx _ _ _).2.trans f1⟩
                      have t2 : ((u2.drew.setCell ⟨gr, a, none⟩ (.int .i64 m)).setCell ⟨gr, b, none⟩ (.int .i64 m)).cell? ⟨B, 0, none⟩ = some (.int .i64 (a : Int)) ∧ ((u2.drew.setCell ⟨gr, a, none⟩ (.int .i64 m)).setCell ⟨gr, b, none⟩ (.int .i64 m)).cell? ⟨B, 1, none⟩ = some (.int .i64 (b : Int)) := ⟨(hbx _ _ _).1.trans t1.1, (hbx _ _ _).2.trans t1.2⟩
                      have hE9 := hE8.putG b m hb
                      rw [← HLS.out, ← HNXT.out] at hE9
                      have HE9 := Aside0.mk hE9
                      clear hE9 hE8 HE7
                      have HLT6 := Lib.hid hlt6
                      go_region_held3 (fun w' => w'.cell? ⟨B, 0, none⟩ = some (.int .i64 (a : Int)) ∧ w'.cell? ⟨B, 1, none⟩ = some (.int .i64 (b : Int))) (first | exact ⟨f0, f1⟩ | exact t1 | exact t2) ((fail))
                      all_goals
                        go_wp2_with fail
                        go_roundw
                        case rel => exact ⟨k + 1, HLT6.out, by go_num, HE9⟩
                        case measure => have := HLT6.out; simp [intOf]; omega
                  · have hkp : k = ps.length := by omega
                    have hE := HD2.out
                    rw [hkp] at hE
                    have HE := Aside0.mk (show EMid w6 wr gr r n (.slice WA ps.length wcp) u19 ps fl (lrounds ps (ids n) (t + 1)) (pA cs n) from hE)
                    clear hkp hE HD2
                    go_wp2_with fail
                    go_roundw
                    case rel => exact ⟨t + 1, by omega, by go_num, HE⟩
                    case measure => simp [intOf]; omega
              · have htn : t = n := by omega
                have hE := HD.out
                rw [htn, HEND.out] at hE
                have HE := Aside0.mk hE
                clear htn hE HD
                go_wp2_with fail
                clear hlt5 ht
                generalize t = t288 at *
                go_loopw [39, 40, 321] (fun _ _ kx wr => ∃ k : Nat, k ≤ n ∧ kx = .int .i64 k ∧ Aside0 (EMid w6 wr gr r n (.slice WA ps.length wcp) u19 ps fl ys (pA cs n))) (fun _ _ kx _ => n - (intOf kx).toNat)
                case atStart => exact ⟨0, Nat.zero_le _, rfl, HE⟩
                case round =>
                  obtain ⟨k, hk7, rfl, HD7⟩ := hrel
                  by_cases hlt7 : k < n
                  · have hB16 := HB6.out.trans (HD7.out.below.mono HB6.out.size)
                    have hZr := HZ.out.below hB16
                    have hkl : k < l.length := by rw [HNL.out]; exact hlt7
                    have hrow := hZr.row
                    rw [HL.out] at hrow
                    have hOA := hrow.A (by omega)
                    have hcell := hrow.cell k l[k] (List.getElem?_eq_getElem hkl)
                    rw [Nat.zero_add] at hcell
                    have hmem : l[k] ∈ cs.map (slOf mm) := by rw [HL.out]; exact List.getElem_mem _
                    have hly := hZr.liesAll _ hmem
                    have hoc := octsOf_below (HZ.out.liesAll _ hmem) hB16
                    have hke := Kd.R_below HKE.out HD7.out.below
                    have hke2 : Kd.R KL 22 wr w1.heap.size (fun j => w1.heap.size ≤ j) (.slice A4 l.length c4) (kept w1 l) := by rw [HNL.out]; exact hke
                    obtain ⟨kad, KB, kc, hA4, hkc, hkle, hkr⟩ := kept_at2 hke2 k hkl
                    subst hOA hA4
                    have hr0 := Lies_reads hly
                    rw [hoc] at hr0
                    have hnle := hly.le
                    have HR0 := Aside0.mk hr0
                    have HR1 := Aside0.mk hkr
                    have HOL := Lib.hid (octsOf_length w1 l[k])
                    have hva : l[k].val = .slice l[k].A l[k].n l[k].c := rfl
                    rw [hva] at hcell
                    generalize octsOf w1 l[k] = xs at *
                    generalize l[k].A = sA at *
                    generalize l[k].n = sN at *
                    generalize l[k].c = sC at *
                    clear hB16 hZr hrow hmem hly hoc hke hke2 hr0 hkr hva hkl
                    go_wp2_with (first | (go_at_call 18; refine (bytesEq HR0.out HR1.out HOL.out.symm HOL.out.symm hnle hkle).mono ?_; rintro e wy ⟨rfl, ⟨dm, rfl⟩⟩; have HE2 := Aside0.mk (HD7.out.drewN dm)))
                    go_roundw
                    case rel => exact ⟨k + 1, by omega, by go_num, HE2⟩
                    case measure => simp [intOf]; omega
                  · obtain ⟨TA2, tcp, hu19⟩ := Kd.R_slice HD7.out.tight
                    subst hu19
                    obtain ⟨-, hwc, -⟩ := Kd.R_reads' HD7.out.want
                    obtain ⟨-, htc, -⟩ := Kd.R_reads' HD7.out.tight
                    have hfl9 := HFL9.out
                    have hyl : ys.length = n := HG.out.1
                    clear hk7
                    go_wp2_with (first | (go_at_call 19; refine (pairsEq (Kd.C_below HPC.out HD7.out.below) (Kd.R_reads' HD7.out.want).2.2 rfl rfl hpc hwc HPLN.out).mono ?_; rintro e wy ⟨rfl, ⟨dm, rfl⟩⟩; have HE2 := Aside0.mk (HD7.out.drewN dm)) | (go_at_call 20; refine (intsEq (A0 := FA) ((Kd.reads_of_C (d := 0) HFC.out).below HE3.out.below) (Kd.reads_of_C (d := 0) (Kd.R_reads' HE3.out.tight).2.2) rfl rfl hfc htc hfl9).mono ?_; rintro e wy ⟨rfl, ⟨dm3, rfl⟩⟩; have HE4 := Aside0.mk (HD7.out.drewN (dm + dm2 + dm3)); have HE5 := Aside0.mk (HD7.out.drewN (dm + (dm2 + dm3)))) | (go_at_call 20; refine (intsEq (A0 := GA) (HG.out.below HE2.out.below) (HE2.out.reads (by omega)) hyl.symm hyl.symm hgc (Nat.le_refl _) (by omega)).mono ?_; rintro e wy ⟨rfl, ⟨dm2, rfl⟩⟩; have HE3 := Aside0.mk (HD7.out.drewN (dm + dm2)); have hlr := run_len HE3.out.map 3; rw [HLEN.out] at hlr))
                    go_ret
                    first | exact ⟨rfl, HB1.out.trans ((HB6.out.trans (HE4.out.below.mono HB6.out.size)).mono HB1.out.size)⟩ | exact ⟨rfl, HB1.out.trans ((HB6.out.trans (HE5.out.below.mono HB6.out.size)).mono HB1.out.size)⟩

end Go.Proofs.Ytghdeoeajbnfkaa.WSl
