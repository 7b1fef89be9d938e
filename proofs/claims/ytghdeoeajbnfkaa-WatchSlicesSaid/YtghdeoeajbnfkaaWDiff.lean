/- Diff. -/
import Derived.Test.YtghdeoeajbnfkaaWChk
namespace Go.Proofs.Ytghdeoeajbnfkaa.WSl
open Go.RowKit Go.Proofs.YtghdeoeajbnfkaaW.PrintWords Go.Proofs.YtghdeoeajbnfkaaW.PrintLast Go.Proofs.YtghdeoeajbnfkaaW.PrintMore Go.Proofs.Ytghdeoeajbnfkaa.WMem Go.Proofs.Ytghdeoeajbnfkaa.PWatchSlices
attribute [local go_sem] max2_int min2_int max_two min_two
set_option linter.unusedSimpArgs false
set_option linter.unusedVariables false

abbrev Sp := S54
abbrev kSp := k54
theorem infoSp : (Try.prog.info? 54).map (fun i => (i.zero, i.size, i.bytes)) = some (some (.agg #[(.int .i64 0), (.int .i64 0)]), 2, 16) := by kernel_rfl

/-- Position i differs: it goes to the last stretch, or makes one. -/
def dlast (out : List Sp) (i : Int) : List Sp :=
  if 0 < out.length ∧ (out.getD (out.length - 1) z54).f1 = i then out.set (out.length - 1) ⟨(out.getD (out.length - 1) z54).f0, i + 1⟩ else out ++ [⟨i, i + 1⟩]
/-- Position k is the same in both. -/
def dsame (xs ys : List Int) (an bn k : Nat) : Bool := decide (k < an) && (decide (k < bn) && (xs.getD k 0 == ys.getD k 0))
def difs (xs ys : List Int) (an bn : Nat) : Nat → List Sp
  | 0 => []
  | k + 1 => if dsame xs ys an bn k then difs xs ys an bn k else dlast (difs xs ys an bn k) k

theorem dlast_le (out : List Sp) (i : Int) : (dlast out i).length ≤ out.length + 1 := by
  unfold dlast
  split <;> simp
theorem difs_le (xs ys : List Int) (an bn : Nat) : ∀ k, (difs xs ys an bn k).length ≤ k
  | 0 => Nat.le_refl _
  | k + 1 => by
    have := difs_le xs ys an bn k
    unfold difs
    split
    · omega
    · have := dlast_le (difs xs ys an bn k) k
      omega

/-- While Diff runs. -/
structure DMid (w wr : World) (v : Value) (out : List Sp) : Prop where
  below : Below w.heap.size w wr
  row : Kd.R kSp 54 wr w.heap.size (fun j => w.heap.size ≤ j) v out

theorem DMid.drewN {w wr : World} {v : Value} {out : List Sp} (h : DMid w wr v out) (n : Nat) : DMid w (wr.drewN n) v out := ⟨pw_below_drewN h.below n, Kd.R_drewN h.row n⟩
theorem old_oct {w wr : World} {p : Addr} {v : Value} (h : w.cell? p = some v) (hb : Below w.heap.size w wr) : wr.cell? p = some v := by
  rw [← h]
  exact hb.cell (p := p) (cell_lt h)

set_option maxHeartbeats 8000000 in
set_option maxRecDepth 100000 in
theorem diff (a b : Sl) (w : World) (ha : Lies w a) (hb : Lies w b) :
    Calls Try.prog 7 #[a.val, b.val] w fun e w' => ∃ v out, e = .returned (.tuple #[v, .int .i64 (chk [a, b])]) ∧ DMid w w' v out ∧ (chk [a, b] = 0 → out = difs (octsOf w a) (octsOf w b) a.n b.n (max a.n b.n)) := by
  have HC := Aside0.mk (check_two w a b)
  have hcc := chk_cases [a, b]
  have hxa := ha.oct
  have hxb := hb.oct
  have hsa := ha.small
  have hsb := hb.small
  have hAa := fun h : 0 < a.n => Sl.A_some ha.nil h
  have hAb := fun h : 0 < b.n => Sl.A_some hb.nil h
  have hva : a.val = .slice a.A a.n a.c := rfl
  have hvb : b.val = .slice b.A b.n b.c := rfl
  rw [hva, hvb] at HC ⊢
  clear ha hb hva hvb
  generalize chk [a, b] = q at *
  generalize octsOf w a = xs at *
  generalize octsOf w b = ys at *
  generalize a.A = aA at *
  generalize a.c = ac at *
  generalize a.n = an at *
  generalize a.b = ab at *
  generalize a.o = ao at *
  generalize b.A = bA at *
  generalize b.c = bc at *
  generalize b.n = bn at *
  generalize b.b = bb at *
  generalize b.o = bo at *
  have HXa := Aside0.mk hxa
  have HXb := Aside0.mk hxb
  have HAa := Aside0.mk hAa
  have HAb := Aside0.mk hAb
  clear hxa hxb hAa hAb
  rcases hcc with rfl | rfl
  · go_enter Try.func7, Try.ntmps7
    go_wp2_with (first | (go_at_call 21; refine HC.out.mono ?_; rintro e w2 ⟨rfl, rfl⟩))
    refine bodyPost_ret (results_tmp2 rfl _ _ _) rfl ?_
    exact ⟨_, [], rfl, ⟨below_alloc (Below.refl _ _) _, Kd.R_nil _ _ _ _ _⟩, fun h => by cases h⟩
  · generalize hM : max an bn = M
    have hm : (if (an : Int) < bn then (bn : Int) else (an : Int)) = (M : Int) := by split <;> omega
    have hm' : (if an < bn then (bn : Int) else (an : Int)) = (M : Int) := by split <;> omega
    have hM2 : M ≤ 1000000 := by omega
    have HM := Lib.hid hM
    clear hM
    go_enter Try.func7, Try.ntmps7
    go_wp2_with (first | (go_at_call 21; refine HC.out.mono ?_; rintro e w2 ⟨rfl, rfl⟩))
    go_loopw [7, 8, 9, 22] (fun v _ _ i wr => ∃ k : Nat, k ≤ M ∧ i = .int .i64 k ∧ Aside0 (DMid w wr v (difs xs ys an bn k))) (fun _ _ _ i _ => M - (intOf i).toNat)
    case atStart => exact ⟨0, Nat.zero_le _, rfl, ⟨below_alloc (Below.refl _ _) _, Kd.R_nil _ _ _ _ _⟩⟩
    case round =>
      obtain ⟨k, hk, rfl, HD⟩ := hrel
      by_cases hlt : k < M
      · obtain ⟨w1, hw1⟩ : ∃ w1, w1 = wr := ⟨_, rfl⟩
        subst hw1
        go_upto_region 8 with (fail)
        go_cut [45] (fun v45 wc => v45 = .bool (dsame xs ys an bn k) ∧ Aside0 (DMid w wc u7 (difs xs ys an bn k)))
        case first =>
          by_cases ea : k < an
          · have ea1 : decide (k < an) = true := decide_eq_true ea
            by_cases eb : k < bn
            · have eb1 : decide (k < bn) = true := decide_eq_true eb
              have cA := old_oct (HXa.out k ea) HD.out.below
              have cB := old_oct (HXb.out k eb) HD.out.below
              have hA := HAa.out (by omega)
              have hB := HAb.out (by omega)
              subst hA hB
              have hq : dsame xs ys an bn k = (xs.getD k 0 == ys.getD k 0) := by unfold dsame; rw [ea1, eb1, Bool.true_and, Bool.true_and]
              generalize xs.getD k 0 = x at cA hq
              generalize ys.getD k 0 = y at cB hq
              have HQ := Lib.hid hq
              clear hq
              go_quiet (fail)
              go_wp2_with fail
              go_meet
              exact ⟨by rw [HQ.out], ⟨HD.out.drewN _⟩⟩
            · have eb1 : decide (k < bn) = false := decide_eq_false eb
              have HQ := Lib.hid (show dsame xs ys an bn k = false by unfold dsame; rw [ea1, eb1, Bool.true_and, Bool.false_and])
              go_quiet (fail)
              go_wp2_with fail
              go_meet
              exact ⟨by rw [HQ.out], ⟨HD.out.drewN _⟩⟩
          · have ea1 : decide (k < an) = false := decide_eq_false ea
            have HQ := Lib.hid (show dsame xs ys an bn k = false by unfold dsame; rw [ea1, Bool.false_and])
            go_quiet (fail)
            go_wp2_with fail
            go_meet
            exact ⟨by rw [HQ.out], ⟨HD.out.drewN _⟩⟩
        case rest =>
          obtain ⟨rfl, HD2⟩ := hcut
          clear HD
          have hstep : difs xs ys an bn (k + 1) = if dsame xs ys an bn k then difs xs ys an bn k else dlast (difs xs ys an bn k) k := rfl
          have hlen := difs_le xs ys an bn k
          by_cases hq : dsame xs ys an bn k = true
          · rw [if_pos hq] at hstep
            rw [hq]
            have HST := Lib.hid hstep
            clear hstep hq
            go_wp2
            go_roundw
            case rel => exact ⟨k + 1, by omega, by go_num, ⟨by rw [HST.out]; exact HD2.out⟩⟩
            case measure => simp [intOf]; omega
          · rw [if_neg hq] at hstep
            have hq : dsame xs ys an bn k = false := by simpa using hq
            rw [hq]
            have HST := Lib.hid hstep
            clear hstep hq
            generalize difs xs ys an bn k = out at *
            obtain ⟨VA, vc, rfl⟩ := Kd.R_slice HD2.out.row
            have HLN := Lib.hid hlen
            clear hlen
            by_cases h0 : out.length = 0
            · have HL := Lib.hid (show dlast out k = out ++ [⟨k, k + 1⟩] by unfold dlast; rw [if_neg (by omega)])
              have hD := HD2
              rw [h0]
              have HD2' := Aside0.mk (show Kd.R kSp 54 wc w.heap.size (fun j => w.heap.size ≤ j) (.slice VA 0 vc) out by rw [← h0]; exact HD2.out.row)
              clear h0 hD
              go_wp2_with (first | ((with_reducible refine gate_builtin (b := .append) (xs := #[.tmp 69, .tmp 74]) rfl ?_); at_builtin; refine Kd.R_append kSp (w0 := w) w.heap.size rfl (.tmp 69) (.tmp 74) 28 54 (.agg #[(.int .i64 0), (.int .i64 0)]) 16 rfl Try.underlying28 infoSp rfl (by decide) (by omega) _ out (⟨(k : Int), (k : Int) + 1⟩ : Sp) [.int .i64 (k : Int), .int .i64 ((k : Int) + 1)] (fun j => w.heap.size ≤ j) (fun _ => False) rfl rfl ?aP (fun _ hk => hk.elim) ?aF ?aO ?aB ?aS ?aL ?_; (case aP => exact k54_mkM _ _ _ _); (case aF => exact (fun j hj => Nat.le_trans HD2.out.below.size hj)); (case aO => exact HD2'.out); (case aB => exact HD2.out.below); (case aS => exact HD2.out.below.size); (case aL => have := HLN.out; omega); intro v1 w9 ho hb hg hat; have HO1 := Aside0.mk ho; have HB9 := Aside0.mk hb; clear ho hb hg hat))
              go_roundw
              case rel => exact ⟨k + 1, by omega, by go_num, ⟨by rw [HST.out, HL.out]; exact ⟨HB9.out, HO1.out⟩⟩⟩
              case measure => simp [intOf]; omega
            · obtain ⟨m, hm1⟩ : ∃ m, out.length = m + 1 := ⟨out.length - 1, by omega⟩
              obtain ⟨g, cap, he, hg1, hg2, cells, hgc⟩ := Kd.R_form HD2.out.row (by omega)
              injection he with he1 _ he2
              subst he1 he2
              obtain ⟨c, hcl, hcM, hcc, hcf⟩ := Kd.R_elem HD2.out.row z54 (m : Int) (by omega) (by omega)
              rw [Int.toNat_natCast] at hcc hcM hcf
              obtain rfl := k54_openM hcM
              have hc1 : wc.cell? ⟨g, m * 2 + 1, none⟩ = some (.int .i64 (out.getD m z54).f1) := hcc 1 _ rfl
              have hf1 : wc.frozen? ⟨g, m * 2 + 1, none⟩ = false := hcf 1
              have hmb : m ≤ 1000000 := by have := HLN.out; omega
              by_cases hk1 : (out.getD m z54).f1 = k
              · have HL := Lib.hid (show dlast out k = out.set m ⟨(out.getD m z54).f0, k + 1⟩ by unfold dlast; rw [hm1, Nat.add_sub_cancel, if_pos ⟨by omega, hk1⟩])
                have hseg := Kd.R_seg (okp := fun _ => False) HD2.out.row (m : Int) (by omega) (by omega) (c := [.int .i64 (out.getD m z54).f0, .int .i64 (out.getD m z54).f1]) (seg := [.int .i64 ((k : Int) + 1)]) (j := 1) rfl (by rw [Int.toNat_natCast]; exact hcc) (by show 1 + 1 ≤ 2; omega) (x' := ⟨(out.getD m z54).f0, (k : Int) + 1⟩) (k54_mkM _ _ _ _) (fun _ h => h.elim)
                rw [Int.toNat_natCast] at hseg
                have hrow : Kd.R kSp 54 (wc.setCell ⟨g, m * 2 + 1, none⟩ (.int .i64 ((k : Int) + 1))) w.heap.size (fun j => w.heap.size ≤ j) (.slice (some ⟨g, 0, none⟩) (m + 1) vc) (out.set m ⟨(out.getD m z54).f0, (k : Int) + 1⟩) := by rw [← hm1]; exact hseg.1
                have HX := Aside0.mk (DMid.mk (HD2.out.below.setCell (p := ⟨g, m * 2 + 1, none⟩) hg1 (.int .i64 ((k : Int) + 1))) hrow)
                rw [hk1] at hc1
                rw [hm1]
                clear hseg hrow hcc hcM hcf hcl hk1 HD2 hm1
                go_wp2
                go_roundw
                case rel => exact ⟨k + 1, by omega, by go_num, ⟨by rw [HST.out, HL.out]; exact HX.out⟩⟩
                case measure => simp [intOf]; omega
              · have HL := Lib.hid (show dlast out k = out ++ [⟨k, k + 1⟩] by unfold dlast; rw [hm1, Nat.add_sub_cancel, if_neg (fun h => hk1 h.2)])
                have HD2' := Aside0.mk (show Kd.R kSp 54 wc w.heap.size (fun j => w.heap.size ≤ j) (.slice (some ⟨g, 0, none⟩) (m + 1) vc) out by rw [← hm1]; exact HD2.out.row)
                generalize (out.getD m z54).f1 = f1 at hc1 hk1
                have hkb : (f1 == (k : Int)) = false := by simp [hk1]
                rw [hm1]
                clear hcc hcM hcf hcl hk1 hm1
                go_wp2_with (first | ((with_reducible refine gate_builtin (b := .append) (xs := #[.tmp 69, .tmp 74]) rfl ?_); at_builtin; refine Kd.R_append kSp (w0 := w) w.heap.size rfl (.tmp 69) (.tmp 74) 28 54 (.agg #[(.int .i64 0), (.int .i64 0)]) 16 rfl Try.underlying28 infoSp rfl (by decide) (by omega) _ out (⟨(k : Int), (k : Int) + 1⟩ : Sp) [.int .i64 (k : Int), .int .i64 ((k : Int) + 1)] (fun j => w.heap.size ≤ j) (fun _ => False) rfl rfl ?aP (fun _ hk => hk.elim) ?aF ?aO ?aB ?aS ?aL ?_; (case aP => exact k54_mkM _ _ _ _); (case aF => exact (fun j hj => Nat.le_trans HD2.out.below.size hj)); (case aO => exact HD2'.out); (case aB => exact HD2.out.below); (case aS => exact HD2.out.below.size); (case aL => have := HLN.out; omega); intro v1 w9 ho hb hg hat; have HO1 := Aside0.mk ho; have HB9 := Aside0.mk hb; clear ho hb hg hat))
                go_roundw
                case rel => exact ⟨k + 1, by omega, by go_num, ⟨by rw [HST.out, HL.out]; exact ⟨HB9.out, HO1.out⟩⟩⟩
                case measure => simp [intOf]; omega
      · have hkn : k = M := by omega
        have HE := Aside0.mk HD.out
        rw [hkn] at HE
        clear hkn
        go_wp2
        refine bodyPost_ret (results_tmp2 rfl _ _ _) rfl ?_
        exact ⟨_, _, rfl, HE.out, fun _ => rfl⟩

end Go.Proofs.Ytghdeoeajbnfkaa.WSl
