/- ledger.ReadEntries, at every string. -/
import Derived.Test.YtafolceicpkhoaaDoorReadEntry
namespace Go.Proofs.YtafolceicpkhoaaDoor.Pol
set_option linter.unusedVariables false
set_option linter.unusedSimpArgs false
open Go.RowKit Go.Proofs.YtafolceicpkhoaaDoorW.PrintWords Go.Proofs.YtafolceicpkhoaaDoorW.PrintLast Go.Proofs.YtafolceicpkhoaaDoorW.PrintMore Go.Proofs.YtafolceicpkhoaaDoor.Bld

theorem linesAre_snoc : ∀ {a : List (List UInt8)} {xs : List Ent} {l : List UInt8} {x : Ent}, LinesAre a xs → LineIs l x → LinesAre (a ++ [l]) (xs ++ [x])
  | [], [], _, _, _, h => ⟨h, trivial⟩
  | _ :: a, _ :: xs, _, _, g, h => ⟨g.1, linesAre_snoc g.2 h⟩
theorem linesAre_at : ∀ {ls : List (List UInt8)} {xs : List Ent} {k : Nat} {l : List UInt8}, LinesAre ls xs → ls[k]? = some l → ∃ x, LineIs l x
  | l :: ls, x :: xs, 0, m, h, e => ⟨x, by rw [← Option.some.inj e]; exact h.1⟩
  | l :: ls, x :: xs, k + 1, m, h, e => linesAre_at h.2 e
  | [], _, k, _, _, e => by simp at e
/-- A text of lines, as its bytes lie. -/
structure TextIs (s : ByteArray) (ls : List (List UInt8)) (rem : List UInt8) : Prop where
  eq : s.data.toList = ended ls ++ rem
  lines : ∀ l ∈ ls, ∀ b ∈ l, b ≠ 10
  rest : ∀ b ∈ rem, b ≠ 10
theorem text_is (s : ByteArray) : ∃ ls rem, TextIs s ls rem := by
  obtain ⟨ls, rem, h1, h2, h3⟩ := lines_of s.data.toList
  exact ⟨ls, rem, h1, h2, h3⟩
theorem TextIs.count {s : ByteArray} {ls : List (List UInt8)} {rem : List UInt8} (h : TextIs s ls rem) : s.data.toList.count 10 = ls.length := by
  have h0 : rem.count 10 = 0 := List.count_eq_zero.2 (fun hm => h.rest 10 hm rfl)
  rw [h.eq, List.count_append, count_ended ls h.lines, h0]; rfl
/-- What reading entries answers. -/
def RE (big : Prop) (ls : List (List UInt8)) (rem : List UInt8) (xs : List Ent) (er : Int) : Prop :=
  (big ∧ xs = [] ∧ er = 4) ∨ (¬ big ∧ ((rem ≠ [] ∧ xs = [] ∧ er = 8) ∨ (rem = [] ∧ (∀ ys, ¬ LinesAre ls ys) ∧ xs = [] ∧ er = 8) ∨
    (rem = [] ∧ ∃ ys t, LinesAre ls ys ∧ TextSays ys t er ∧ ((er = 0 ∧ xs = ys) ∨ (er ≠ 0 ∧ xs = [])))))
theorem re_inj {big : Prop} {ls : List (List UInt8)} {rem : List UInt8} {xs ys : List Ent} {a b : Int} (h : RE big ls rem xs a) (g : RE big ls rem ys b) : xs = ys ∧ a = b := by
  rcases h with ⟨h1, rfl, rfl⟩ | ⟨h1, h2⟩
  · rcases g with ⟨_, rfl, rfl⟩ | ⟨g1, _⟩
    · exact ⟨rfl, rfl⟩
    · exact absurd h1 g1
  · rcases g with ⟨g1, _⟩ | ⟨_, g2⟩
    · exact absurd g1 h1
    · rcases h2 with ⟨h2, rfl, rfl⟩ | ⟨h2, h3, rfl, rfl⟩ | ⟨h2, zs, t, h3, h4, h5⟩
      · rcases g2 with ⟨_, rfl, rfl⟩ | ⟨g2, _⟩ | ⟨g2, _⟩
        · exact ⟨rfl, rfl⟩
        · exact absurd g2 h2
        · exact absurd g2 h2
      · rcases g2 with ⟨g2, _⟩ | ⟨_, _, rfl, rfl⟩ | ⟨_, zs', t', g3, _⟩
        · exact absurd h2 g2
        · exact ⟨rfl, rfl⟩
        · exact absurd g3 (h3 _)
      · rcases g2 with ⟨g2, _⟩ | ⟨_, g3, _⟩ | ⟨_, zs', t', g3, g4, g5⟩
        · exact absurd h2 g2
        · exact absurd h3 (g3 _)
        · obtain rfl := linesAre_inj h3 g3
          obtain ⟨_, rfl⟩ := textSays_inj h4 g4
          rcases h5 with ⟨h5, rfl⟩ | ⟨h5, rfl⟩ <;> rcases g5 with ⟨g5, rfl⟩ | ⟨g5, rfl⟩
          · exact ⟨rfl, rfl⟩
          · exact absurd h5 g5
          · exact absurd g5 h5
          · exact ⟨rfl, rfl⟩
def Big (s : ByteArray) (ls : List (List UInt8)) : Prop := 500000 < s.size ∨ 5000 < ls.length
def REPost (s : ByteArray) (ls : List (List UInt8)) (rem : List UInt8) (w : World) (e : Ending) (w' : World) : Prop :=
  ∃ xs er A c, RE (Big s ls) ls rem xs er ∧ e = .returned (.tuple #[.slice A xs.length c, .int .i64 er]) ∧ Kd.C entK w' A xs.length xs ∧ xs.length ≤ c ∧ Below w.heap.size w w'
theorem infoE : (Tryd.prog.info? 31).map (fun i => (i.zero, i.size, i.bytes)) = some (some (.agg zero6), 6, 48) := by kernel_rfl
theorem countW (s : ByteArray) (w : World) : Calls Tryd.prog 18 #[.string s, .string { data := #[10] }] w fun e w' => e = .returned (.int .i64 (s.data.toList.count 10)) ∧ w = w' :=
  (Tryd.strings_Count_one s 10 w).mono fun e w' ⟨h, hw⟩ => ⟨h, hw.symm⟩
theorem cutSufW (s : ByteArray) (w : World) (hs : s.size ≤ 9223372036854775807) : Calls Tryd.prog 19 #[.string s, .string ⟨#[10]⟩] w fun e w' => e = .returned (.tuple #[.string ⟨(Lib.trimSuffix s.data.toList (⟨#[10]⟩ : ByteArray).data.toList).toArray⟩, .bool (Lib.hasSuffix s.data.toList (⟨#[10]⟩ : ByteArray).data.toList)]) ∧ w = w' :=
  (Tryd.strings_CutSuffix s ⟨#[10]⟩ w hs).mono fun e w' ⟨h, hw⟩ => ⟨h, hw.symm⟩
theorem suffix_yes (l : List UInt8) : Lib.hasSuffix (l ++ [10]) [10] = true ∧ Lib.trimSuffix (l ++ [10]) [10] = l := by
  have h : Lib.hasSuffix (l ++ [10]) [10] = true := by
    unfold Lib.hasSuffix
    rw [List.isSuffixOf_iff_suffix]
    exact ⟨l, rfl⟩
  refine ⟨h, ?_⟩
  unfold Lib.trimSuffix
  rw [if_pos h]; simp
theorem suffix_no (l : List UInt8) (h0 : l ≠ []) (h : l.getLast h0 ≠ 10) : Lib.hasSuffix l [10] = false := by
  rw [Bool.eq_false_iff]
  intro e
  unfold Lib.hasSuffix at e
  rw [List.isSuffixOf_iff_suffix] at e
  obtain ⟨t, rfl⟩ := e
  simp at h

set_option maxHeartbeats 32000000 in
set_option maxRecDepth 100000 in
theorem readEntries (s : ByteArray) (ls : List (List UInt8)) (rem : List UInt8) (hI : TextIs s ls rem) (w : World) (hT : Tabs w) (hE : Errs w) (hM : MaxL w) :
    Calls Tryd.prog 7 #[.string s] w fun e w' => REPost s ls rem w e w' := by
  have hcn := hI.count
  by_cases hbig : Big s ls
  · have HO : Aside0 (RE (Big s ls) ls rem [] 4) := ⟨.inl ⟨hbig, rfl, rfl⟩⟩
    have hd : decide ((5000 : Int) < ((s.data.toList.count 10 : Nat) : Int)) = true ∨ (decide ((5000 : Int) < ((s.data.toList.count 10 : Nat) : Int)) = false ∧ decide ((500000 : Int) < (s.size : Int)) = true) := by
      rw [hcn]
      by_cases h : 5000 < ls.length
      · exact .inl (decide_eq_true (by omega))
      · refine .inr ⟨decide_eq_false (by omega), decide_eq_true ?_⟩
        rcases hbig with h2 | h2 <;> omega
    have HCW := Aside0.mk (countW s w)
    generalize s.data.toList.count 10 = cnt at *
    clear hI hT hE hM hcn hbig
    rcases hd with hd | ⟨hd, hd2⟩
    all_goals
      go_enter Tryd.func7, Tryd.ntmps7
      go_wp2_with fail
      refine HCW.out.mono ?_
      rintro e w1 ⟨rfl, rfl⟩
      go_wp2
      go_ret2
      exact ⟨[], 4, none, 0, HO.out, rfl, Kd.C_nil _ _, by simp, Below.refl _ _⟩
  · have hb1 : ¬ 500000 < s.size := fun h => hbig (.inl h)
    have hb2 : ¬ 5000 < ls.length := fun h => hbig (.inr h)
    have hd : decide ((5000 : Int) < ((s.data.toList.count 10 : Nat) : Int)) = false := decide_eq_false (by rw [hcn]; omega)
    have hd2 : decide ((500000 : Int) < (s.size : Int)) = false := decide_eq_false (by omega)
    have HCW := Aside0.mk (countW s w)
    have hlz : s.data.toList.length = s.size := rfl
    generalize s.data.toList.count 10 = cnt at *
    by_cases h0 : s.data.toList = []
    · have he : s.toList.isEmpty = true := by rw [ByteArray.toList_eq]; exact List.isEmpty_iff.2 h0
      have hls : ls = [] ∧ rem = [] := by
        have h1 := hI.eq
        rw [h0] at h1
        have h2 := List.append_eq_nil_iff.1 h1.symm
        refine ⟨?_, h2.2⟩
        cases ls with
        | nil => rfl
        | cons a r => rw [ended_cons] at h2; simp at h2
      obtain ⟨rfl, rfl⟩ := hls
      have HO : Aside0 (RE (Big s []) [] [] [] 0) := ⟨.inr ⟨hbig, .inr (.inr ⟨rfl, [], _, trivial, .inr (.inl ⟨by simp, by simp, rfl, rfl⟩), .inl ⟨rfl, rfl⟩⟩)⟩⟩
      clear hI hT hE hM hcn hbig h0
      go_enter Tryd.func7, Tryd.ntmps7
      go_wp2_with fail
      refine HCW.out.mono ?_
      rintro e w1 ⟨rfl, rfl⟩
      go_wp2
      go_ret2
      exact ⟨[], 0, none, 0, HO.out, rfl, Kd.C_nil _ _, by simp, Below.refl _ _⟩
    · have he : s.toList.isEmpty = false := by
        rw [ByteArray.toList_eq, Bool.eq_false_iff]
        intro e; exact h0 (List.isEmpty_iff.1 e)
      by_cases hr : rem = []
      · subst hr
        have hls : ls ≠ [] := by
          intro e
          apply h0
          rw [hI.eq, e]; rfl
        have hsg : s.data.toList = glue 10 ls ++ [10] := by rw [hI.eq, List.append_nil, ended_glue ls hls]
        obtain ⟨hs1, hs2⟩ := suffix_yes (glue 10 ls)
        have hcs := fun u => cutSufW s u (by omega)
        have e10 : (⟨#[10]⟩ : ByteArray).data.toList = [10] := rfl
        rw [hsg, e10, hs1, hs2] at hcs
        have hpg := pieces_glue 10 ls hls hI.lines
        have hbz : (ba (glue 10 ls)).size ≤ 500000 := by
          rw [ba_size]
          have : s.data.toList.length = (glue 10 ls).length + 1 := by rw [hsg]; simp
          omega
        have hls2 : ∀ l ∈ ls, l.length ≤ 500000 := by
          intro l hl
          have h1 := pieces_small ⟨#[10]⟩ (Lib.countB (ba (glue 10 ls)) ⟨#[10]⟩) (ba (glue 10 ls)) (ba l) (by rw [hpg]; exact List.mem_map.2 ⟨l, hl, rfl⟩)
          rw [ba_size] at h1
          omega
        have HCS := Lib.hid hcs
        have HSP := Lib.hid (fun u (hu : MaxL u) => splitW 10 (ba (glue 10 ls)) hbz (ls.map ba) hpg u hu)
        have HL2 := Lib.hid hls2
        have HT := Aside0.mk hT
        have HE := Aside0.mk hE
        have HM := Aside0.mk hM
        have HBG := Lib.hid hbig
        have hll : (ls.map ba).length = ls.length := by simp
        have HLL := Lib.hid hll
        clear hI hT hE hM hcn hbig h0 hls hsg hs1 hs2 hcs e10 hpg hls2 hll hlz
        go_enter Tryd.func7, Tryd.ntmps7
        go_wp2_with fail
        refine HCW.out.mono ?_
        rintro e w1 ⟨rfl, rfl⟩
        go_wp2_with fail
        refine (HCS.out _).mono ?_
        rintro e w1 ⟨rfl, rfl⟩
        go_wp2_with fail
        refine (HSP.out _ HM.out).mono ?_
        rintro e w1 ⟨rfl, hw1⟩
        have hlb : w1.heap[w.heap.size]? = some (.cells ((ls.map ba).map Value.string).toArray 9 (0, 0)) := by rw [hw1]; exact blk_new w _
        have HLB := Aside0.mk hlb
        have HB1 := Aside0.mk (show Below w.heap.size w w1 by rw [hw1]; exact below_alloc (Below.refl _ _) _)
        rw [HLL.out]
        clear hw1 hlb
        generalize hn : ls.length = n at *
        have HN := Lib.hid hn
        clear hn
        go_wp2_with fail
        go_loopw [6, 8, 9, 10, 33] (fun v _ _ _ i ws => ∃ (k : Nat) (xs : List Ent), k ≤ n ∧ i = .int .i64 k ∧ Hid (xs.length = k ∧ LinesAre (ls.take k) xs) ∧ Aside0 (Below w1.heap.size w1 ws) ∧ Aside0 (Kd.R entK 31 ws w1.heap.size (fun _ => True) v xs)) (fun _ _ _ _ i _ => n - (intOf i).toNat)
        case atStart => exact ⟨0, [], by omega, rfl, Lib.hid ⟨rfl, trivial⟩, ⟨Below.refl _ _⟩, ⟨Kd.R_nil _ _ _ _ _⟩⟩
        case round =>
          obtain ⟨k, xs, hk, rfl, HV0, HB, HR⟩ := hrel
          have HV := Lib.hid HV0.out.1
          have HLA := Lib.hid HV0.out.2
          clear HV0
          have HWr := Aside0.mk (below_then HB1.out HB1.out.size HB.out)
          by_cases hkn : k < n
          · obtain ⟨l, hl⟩ : ∃ l, ls[k]? = some l := ⟨_, List.getElem?_eq_getElem (by rw [HN.out]; exact hkn)⟩
            have hcl : wr.cell? ⟨w.heap.size, k, none⟩ = some (.string (ba l)) := by
              rw [blk_cell ((HB.out.block _ (blk_in HLB.out)).trans HLB.out), List.getElem?_toArray, List.getElem?_map, List.getElem?_map, hl]; rfl
            have hlz2 := HL2.out l (List.mem_of_getElem? hl)
            have HLk := Lib.hid hl
            clear hl
            go_wp2_with fail
            refine (readEntry (ba l) (by rw [ba_size]; exact hlz2) _ (HT.out.below HWr.out) (HE.out.below HWr.out) (HM.out.below HWr.out)).mono ?_
            rintro e w2 ⟨x, ok, rfl, hb2, hx⟩
            rw [ba_list] at hx
            have HB2 := Aside0.mk (HB.out.trans (hb2.mono HB.out.size))
            have HR2 := Aside0.mk (Kd.R_below HR.out hb2)
            clear hb2 hcl
            rcases hx with ⟨rfl, hx⟩ | ⟨rfl, hx⟩
            · have hla : LinesAre (ls.take (k + 1)) (xs ++ [x]) := by
                have hk' := (List.getElem?_eq_some_iff.1 HLk.out).1
                have ek := (List.getElem?_eq_some_iff.1 HLk.out).2
                rw [List.take_succ_eq_append_getElem hk', ek]
                exact linesAre_snoc HLA.out hx
              have HV2 : Hid ((xs ++ [x]).length = k + 1 ∧ LinesAre (ls.take (k + 1)) (xs ++ [x])) := Lib.hid ⟨by rw [List.length_append, HV.out]; rfl, hla⟩
              clear hla hx
              obtain ⟨xk, xo, xt, xa, xl, xu⟩ := x
              have HB3 := Aside0.mk (below_alloc HB2.out (.cells #[.int .i64 xk, .int .i64 xo, .int .i64 xt, .int .i64 xa, .int .i64 xl, .int .i64 xu] 31))
              have HR3 := Aside0.mk (Kd.R_alloc HR2.out (.cells #[.int .i64 xk, .int .i64 xo, .int .i64 xt, .int .i64 xa, .int .i64 xl, .int .i64 xu] 31))
              obtain ⟨d0, d1, d2, d3, d4, d5⟩ := cellsSix (blk_new w2 (.cells #[.int .i64 xk, .int .i64 xo, .int .i64 xt, .int .i64 xa, .int .i64 xl, .int .i64 xu] 31))
              go_upto_region 15 with fail
              generalize w2.alloc (.cells #[.int .i64 xk, .int .i64 xo, .int .i64 xt, .int .i64 xa, .int .i64 xl, .int .i64 xu] 31) = W2 at *
              generalize w2.heap.size = g9 at *
              go_wp2_with (first | ((with_reducible refine gate_builtin (b := .append) (xs := #[.tmp 44, .tmp 46]) rfl ?_); at_builtin; refine Kd.R_append entK (w0 := w1) w1.heap.size rfl (.tmp 44) (.tmp 46) 22 31 (.agg zero6) 48 rfl Tryd.underlying22 infoE rfl (by decide) (by omega) _ xs ⟨xk, xo, xt, xa, xl, xu⟩ [.int .i64 xk, .int .i64 xo, .int .i64 xt, .int .i64 xa, .int .i64 xl, .int .i64 xu] (fun _ => True) (fun _ => False) rfl rfl ?aP (fun _ hk => hk.elim) ?aF ?aO ?aB ?aS ?aL ?_; (case aP => exact rfl); (case aB => exact (by repeat (first | (with_reducible first | exact HB3.out | apply below_alloc | apply pw_below_drewN | apply below_drew) | exact HB3.out))); (case aF => exact (fun _ _ => trivial)); (case aO => exact (by (with_reducible repeat (first | apply Kd.R_alloc | apply Kd.R_drewN | apply Kd.R_drew)); exact HR3.out)); (case aS => exact (below_size (by repeat (first | (with_reducible first | exact HB3.out | apply below_alloc | apply pw_below_drewN | apply below_drew) | exact HB3.out)))); (case aL => have := HV.out; omega); intro v1 w9 ho hb hg hat; have HO1 := Aside0.mk ho; have HB9 := Aside0.mk hb; clear ho hb hg hat))
              go_wp2
              go_roundw
              case rel => exact ⟨k + 1, _, by omega, by go_num, HV2, HB9, HO1⟩
              case measure => simp [intOf]; omega
            · have hbad : ∀ ys, ¬ LinesAre ls ys := fun ys hy => by
                obtain ⟨y, hy2⟩ := linesAre_at hy HLk.out
                exact hx y hy2
              have HO : Aside0 (RE (Big s ls) ls [] [] 8) := ⟨.inr ⟨HBG.out, .inr (.inl ⟨rfl, hbad, rfl, rfl⟩)⟩⟩
              have HW2 := Aside0.mk (below_then HB1.out HB1.out.size HB2.out)
              clear hbad hx
              go_wp2
              go_ret2
              exact ⟨[], 8, none, 0, HO.out, rfl, Kd.C_nil _ _, by simp, below_alloc HW2.out _⟩
          · have hkn2 : n ≤ k := by omega
            have hla : LinesAre ls xs := by
              have := HLA.out
              rwa [List.take_of_length_le (by rw [HN.out]; exact hkn2)] at this
            have HLX := Aside0.mk hla
            clear hla
            obtain ⟨A, c, rfl, hc, hC⟩ := Kd.R_reads HR.out
            have HC := Aside0.mk hC
            have HCc := Lib.hid hc
            clear hC hc
            go_wp2_with fail
            refine (entriesText A xs.length c xs _ HC.out (HT.out.below HWr.out)).mono ?_
            rintro e w3 ⟨t, er, hte, rfl, hb3⟩
            have HC3 := Aside0.mk (Kd.C_below HC.out hb3)
            have HW3 := Aside0.mk (below_then HWr.out HWr.out.size hb3)
            clear hb3
            by_cases her : er = 0
            · subst her
              have HO : Aside0 (RE (Big s ls) ls [] xs 0) := ⟨.inr ⟨HBG.out, .inr (.inr ⟨rfl, xs, t, HLX.out, hte, .inl ⟨rfl, rfl⟩⟩)⟩⟩
              clear hte
              go_wp2
              go_ret2
              exact ⟨xs, 0, A, c, HO.out, rfl, HC3.out, HCc.out, HW3.out⟩
            · have hne : (er != 0) = true := bne_iff_ne.2 her
              have HO : Aside0 (RE (Big s ls) ls [] [] er) := ⟨.inr ⟨HBG.out, .inr (.inr ⟨rfl, xs, t, HLX.out, hte, .inr ⟨her, rfl⟩⟩)⟩⟩
              clear hte her
              go_wp2
              go_ret2
              exact ⟨[], er, none, 0, HO.out, rfl, Kd.C_nil _ _, by simp, HW3.out⟩
      · have hlast : s.data.toList.getLast h0 ≠ 10 := by
          have e : s.data.toList.getLast h0 = rem.getLast hr := by
            simp only [hI.eq]
            exact List.getLast_append_of_ne_nil _ hr
          rw [e]
          exact hI.rest _ (List.getLast_mem hr)
        have hs1 := suffix_no _ h0 hlast
        have hcs := fun u => cutSufW s u (by omega)
        have e10 : (⟨#[10]⟩ : ByteArray).data.toList = [10] := rfl
        rw [e10, hs1] at hcs
        have HCS := Lib.hid hcs
        have HO : Aside0 (RE (Big s ls) ls rem [] 8) := ⟨.inr ⟨hbig, .inl ⟨hr, rfl, rfl⟩⟩⟩
        clear hI hT hE hM hcn hbig h0 hlast hs1 hcs e10 hr
        go_enter Tryd.func7, Tryd.ntmps7
        go_wp2_with fail
        refine HCW.out.mono ?_
        rintro e w1 ⟨rfl, rfl⟩
        go_wp2_with fail
        refine (HCS.out _).mono ?_
        rintro e w1 ⟨rfl, rfl⟩
        go_wp2
        go_ret2
        exact ⟨[], 8, none, 0, HO.out, rfl, Kd.C_nil _ _, by simp, Below.refl _ _⟩
end Go.Proofs.YtafolceicpkhoaaDoor.Pol
