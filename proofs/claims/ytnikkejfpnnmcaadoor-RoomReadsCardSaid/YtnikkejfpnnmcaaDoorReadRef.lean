/- cornref1.ReadPolicyOf, at every string. -/
import Derived.Test.YtnikkejfpnnmcaaDoorReadAny
import Derived.LoopN
namespace Go.Proofs.YtnikkejfpnnmcaaDoor.Pol
set_option linter.unusedVariables false
open Go.RowKit Go.Proofs.YtnikkejfpnnmcaaDoorW.PrintWords Go.Proofs.YtnikkejfpnnmcaaDoorW.PrintLast Go.Proofs.YtnikkejfpnnmcaaDoorW.PrintMore Go.Proofs.YtnikkejfpnnmcaaDoor.Policy
set_option linter.unusedSimpArgs false

/-- What the reference's words hold. -/
def Words6 (w : World) : Prop := ∃ b o c, w.cell? ⟨0, 0, none⟩ = some (.slice (some ⟨b, o, none⟩) 6 c) ∧ b < w.heap.size ∧ ∀ j x, (ByteArray.empty :: fives)[j]? = some x → w.cell? ⟨b, o + j, none⟩ = some (.string x)
theorem Words6.below {w w' : World} (h : Words6 w) (hb : Below w.heap.size w w') : Words6 w' := by
  obtain ⟨b, o, c, h1, h2, h3⟩ := h
  refine ⟨b, o, c, cell_stays h1 hb, Nat.lt_of_lt_of_le h2 hb.size, fun j x hx => ?_⟩
  rw [← h3 j x hx]; exact hb.cell (p := ⟨b, o + j, none⟩) h2
theorem index6 (a : ByteArray) (k6 : Int) (hK : Lib.idxOfS (ByteArray.empty :: fives) a = k6) (b o c : Nat) (w : World) (hc : ∀ j x, (ByteArray.empty :: fives)[j]? = some x → w.cell? ⟨b, o + j, none⟩ = some (.string x)) : Calls Tryd.prog 23 #[.slice (some ⟨b, o, none⟩) 6 c, .string a] w fun e w' => e = .returned (.int .i64 k6) ∧ w' = w := by
  have h := Tryd.slices_Index_string b o 6 c (ByteArray.empty :: fives) a w (by decide) (by omega) (fun i hi => by
    refine hc i _ ?_
    rw [List.getD_eq_getElem?_getD, List.getElem?_eq_getElem hi]; rfl)
  have e : (ByteArray.empty :: fives).take 6 = ByteArray.empty :: fives := rfl
  rw [e, hK] at h
  exact h

set_option maxHeartbeats 40000000 in
set_option maxRecDepth 100000 in
theorem refAny (s : ByteArray) (w : World) (a : ByteArray) (L : List ByteArray) (K k6 : Int) (hs : s.size ≤ 200000) (hLs : ∀ x ∈ a :: L, x.size ≤ 200000) (hLl : L.length ≤ 200000) (hK0 : 0 ≤ K) (hK5 : K ≤ 5) (hK : Lib.idxOfS (ByteArray.empty :: fives) a = k6) (hk6 : (1 ≤ K ∧ k6 = K) ∨ (K = 0 ∧ k6 < 1))
    (hsp : ∀ (w : World) (mx : Int), w.cell? ⟨4, 0, none⟩ = some (.int .i64 mx) →
      Calls Tryd.prog 22 #[.string s, .string ⟨#[32]⟩] w fun e w' => e = .returned (.slice (some ⟨w.heap.size, 0, none⟩) (a :: L).length (a :: L).length) ∧ w' = w.alloc (.cells ((a :: L).map Value.string).toArray 9))
    (hT : Tabs w) (hE : Errs w) (hW : Words6 w) (mx : Int) (hx : w.cell? ⟨4, 0, none⟩ = some (.int .i64 mx)) :
    Calls Tryd.prog 12 #[.string s] w fun e w' => OutSays K L w e w' := by
  have hzd : decide (200000 < (s.size : Int)) = false := decide_eq_false (by omega)
  have HSp := Lib.hid hsp
  have HT := Aside0.mk hT
  have HE := Aside0.mk hE
  have HX := Aside0.mk hx
  have HLs := Lib.hid hLs
  have HW := Aside0.mk hW
  have HI := Lib.hid (index6 a k6 hK)
  have HK6 := Lib.hid hk6
  clear hT hE hx hsp hK hLs hW hk6
  go_enter Tryd.func12, Tryd.ntmps12
  go_wp2_with fail
  refine (HSp.out _ mx (by exact (Below.cell (below_alloc (Below.refl w.heap.size w) _) (p := ⟨4, 0, none⟩) (old_block HX.out)).trans HX.out)).mono ?_
  rintro e w1 ⟨rfl, hw1⟩
  have HM0 : Aside0 (ReadMid w w1 a L) := ⟨by
    rw [hw1]
    refine ⟨HT.out.below (below_alloc (below_alloc (Below.refl _ _) _) _), below_alloc (below_alloc (Below.refl _ _) _) _, ?_, ?_⟩
    · have := blk_new (w.alloc (.cells #[.int .i64 0, .int .i64 0, .int .i64 0] 23)) (.cells ((a :: L).map Value.string).toArray 9)
      simpa using this
    · rw [Below.heap_alloc _ _ _ (by simp)]; exact blk_new w _⟩
  have hs0 : (w.alloc (.cells #[.int .i64 0, .int .i64 0, .int .i64 0] 23)).heap.size = w.heap.size + 1 := by simp
  rw [hs0]
  clear hw1 hs0
  have hcell := HM0.out.c0
  have hlen : (a :: L).length = L.length + 1 := rfl
  rw [hlen]
  clear hlen
  generalize hn : L.length + 1 = n
  have hn1 : 0 < n := by omega
  have hn2 : (0 : Int) < (n : Int) := by omega
  have HN := Lib.hid hn
  obtain ⟨b6, o6, c6, hg6, hb6, hcells6⟩ := HW.out.below HM0.out.below
  have HC6 := Lib.hid hcells6
  clear hn hcells6
  go_wp2_with fail
  go_quiet ((go_at_call 23; exact Calls.quiet_of_same (HI.out _ _ _ _ HC6.out)))
  have HM := Aside0.mk (HM0.out.later (pw_below_drewN (Below.refl _ _) nq))
  generalize w1.drewN nq = wq at *
  have hr := endThree HM.out.res
  have hr0 := hr 0 (by omega)
  have hr1 := hr 1 (by omega)
  have hr2 := hr 2 (by omega)
  have hrf : ∀ i, wq.frozen? ⟨w.heap.size, i, none⟩ = false := fun i => freeOf HM.out.res i
  obtain ⟨L', hL'⟩ : ∃ L', L' = L := ⟨L, rfl⟩
  rw [← hL'] at HLs HM HN
  have HLE := Lib.hid hL'
  clear hL' HM0 HSp hcell hr hg6 hb6 HC6 HI
  match L', HLs, HM, HN, HLE with
  | [], HLs, HM, HN, HLE =>
    have hzn : n = 1 := by have := HN.out; simpa using this.symm
    subst hzn
    have k3 : K = 0 ∨ K = 2 ∨ (1 ≤ K ∧ K ≠ 2) := by omega
    rcases k3 with rfl | rfl | ⟨k1, k2⟩
    · have kd : decide (k6 < 1) = true := by rcases HK6.out with h | h <;> exact decide_eq_true (by omega)
      obtain ⟨hv0, hv1, hv2⟩ := endCells (u := wq) HM.out.res (.int .i64 0) (.int .i64 0) (.int .i64 0)
      have HBW := Aside0.mk (endBelow HM.out.below (.int .i64 0) (.int .i64 0) (.int .i64 0))
      have HO := Aside0.mk (out_bad (K := 0) (L := ([])) (by rintro s' m' (⟨h, _⟩ | ⟨h, _⟩) <;> omega))
      go_wp2
      all_goals
        (try simp only [Exit.inBlock, Exit.then])
        refine bodyPost_ret (v := .tuple #[.agg #[.int .i64 0, .int .i64 0, .int .i64 0], .int .i64 8]) ?_ rfl ⟨0, 0, 0, 8, HLE.out ▸ HO.out, rfl, HBW.out⟩
        rw [results_cell_tmp rfl]
        go_simp
    · obtain rfl : k6 = 2 := by rcases HK6.out with h | h <;> omega
      obtain ⟨hv0, hv1, hv2⟩ := endCells (u := wq) HM.out.res (.int .i64 0) (.int .i64 0) (.int .i64 0)
      have HBW := Aside0.mk (endBelow HM.out.below (.int .i64 0) (.int .i64 0) (.int .i64 0))
      have HO := Aside0.mk (out_bad (K := 2) (L := ([])) (by rintro s' m' (⟨_, _, x', h, _⟩ | ⟨_, x', y', h, _⟩) <;> cases h))
      go_wp2
      all_goals
        (try simp only [Exit.inBlock, Exit.then])
        refine bodyPost_ret (v := .tuple #[.agg #[.int .i64 0, .int .i64 0, .int .i64 0], .int .i64 8]) ?_ rfl ⟨0, 0, 0, 8, HLE.out ▸ HO.out, rfl, HBW.out⟩
        rw [results_cell_tmp rfl]
        go_simp
    · obtain rfl : k6 = K := by rcases HK6.out with h | h <;> omega
      have kb : (k6 == 2) = false := by rw [beq_eq_false_iff_ne]; exact k2
      have kd : decide (k6 < 1) = false := decide_eq_false (by omega)
      have K1 := Lib.hid k1
      have K2 := Lib.hid k2
      obtain ⟨hv0, hv1, hv2⟩ := endCells (u := wq) HM.out.res (.int .i64 0) (.int .i64 0) (.int .i64 0)
      have HBW := Aside0.mk (endBelow HM.out.below (.int .i64 0) (.int .i64 0) (.int .i64 0))
      have HO := Aside0.mk (out_bad (K := k6) (L := ([])) (by rintro s' m' (⟨_, _, x', h, _⟩ | ⟨_, x', y', h, _⟩) <;> cases h))
      go_wp2
      all_goals
        (try simp only [Exit.inBlock, Exit.then])
        refine bodyPost_ret (v := .tuple #[.agg #[.int .i64 0, .int .i64 0, .int .i64 0], .int .i64 8]) ?_ rfl ⟨0, 0, 0, 8, HLE.out ▸ HO.out, rfl, HBW.out⟩
        rw [results_cell_tmp rfl]
        go_simp
  | [x], HLs, HM, HN, HLE =>
    have hzn : n = 2 := by have := HN.out; simpa using this.symm
    subst hzn
    have k3 : K = 0 ∨ K = 2 ∨ (1 ≤ K ∧ K ≠ 2) := by omega
    rcases k3 with rfl | rfl | ⟨k1, k2⟩
    · have kd : decide (k6 < 1) = true := by rcases HK6.out with h | h <;> exact decide_eq_true (by omega)
      obtain ⟨hv0, hv1, hv2⟩ := endCells (u := wq) HM.out.res (.int .i64 0) (.int .i64 0) (.int .i64 0)
      have HBW := Aside0.mk (endBelow HM.out.below (.int .i64 0) (.int .i64 0) (.int .i64 0))
      have HO := Aside0.mk (out_bad (K := 0) (L := ([x])) (by rintro s' m' (⟨h, _⟩ | ⟨h, _⟩) <;> omega))
      go_wp2
      all_goals
        (try simp only [Exit.inBlock, Exit.then])
        refine bodyPost_ret (v := .tuple #[.agg #[.int .i64 0, .int .i64 0, .int .i64 0], .int .i64 8]) ?_ rfl ⟨0, 0, 0, 8, HLE.out ▸ HO.out, rfl, HBW.out⟩
        rw [results_cell_tmp rfl]
        go_simp
    · obtain rfl : k6 = 2 := by rcases HK6.out with h | h <;> omega
      obtain ⟨hv0, hv1, hv2⟩ := endCells (u := wq) HM.out.res (.int .i64 0) (.int .i64 0) (.int .i64 0)
      have HBW := Aside0.mk (endBelow HM.out.below (.int .i64 0) (.int .i64 0) (.int .i64 0))
      have HO := Aside0.mk (out_bad (K := 2) (L := ([x])) (by rintro s' m' (⟨_, h, _⟩ | ⟨_, x', y', h, _⟩) <;> first | exact h rfl | (simp at h)))
      go_wp2
      all_goals
        (try simp only [Exit.inBlock, Exit.then])
        refine bodyPost_ret (v := .tuple #[.agg #[.int .i64 0, .int .i64 0, .int .i64 0], .int .i64 8]) ?_ rfl ⟨0, 0, 0, 8, HLE.out ▸ HO.out, rfl, HBW.out⟩
        rw [results_cell_tmp rfl]
        go_simp
    · obtain rfl : k6 = K := by rcases HK6.out with h | h <;> omega
      have kb : (k6 == 2) = false := by rw [beq_eq_false_iff_ne]; exact k2
      have kd : decide (k6 < 1) = false := decide_eq_false (by omega)
      have K1 := Lib.hid k1
      have K2 := Lib.hid k2
      go_wp2_with fail
      have hz1 : (wq.alloc (.cells #[.int .i64 k6, .int .i64 0, .int .i64 0] 23)).heap.size = wq.heap.size + 1 := by simp
      have hbel := below_alloc (below_alloc (Below.refl wq.heap.size wq) (.cells #[.int .i64 k6, .int .i64 0, .int .i64 0] 23)) (.cells #[.pointer (some ⟨wq.heap.size, 2, none⟩), .pointer (some ⟨wq.heap.size, 1, none⟩)] 48)
      have hpb : ((wq.alloc (.cells #[.int .i64 k6, .int .i64 0, .int .i64 0] 23)).alloc (.cells #[.pointer (some ⟨wq.heap.size, 2, none⟩), .pointer (some ⟨wq.heap.size, 1, none⟩)] 48)).heap[wq.heap.size]? = some (.cells #[.int .i64 k6, .int .i64 0, .int .i64 0] 23) := by rw [Below.heap_alloc _ _ _ (by simp)]; exact blk_new wq _
      have hpp : ((wq.alloc (.cells #[.int .i64 k6, .int .i64 0, .int .i64 0] 23)).alloc (.cells #[.pointer (some ⟨wq.heap.size, 2, none⟩), .pointer (some ⟨wq.heap.size, 1, none⟩)] 48)).heap[wq.heap.size + 1]? = some (.cells #[.pointer (some ⟨wq.heap.size, 2, none⟩), .pointer (some ⟨wq.heap.size, 1, none⟩)] 48) := by rw [← hz1]; exact blk_new _ _
      have hgb : w.heap.size + 1 < wq.heap.size := blk_in HM.out.list
      have HM2 := Aside0.mk (HM.out.later hbel)
      try rw [hz1]
      generalize ((wq.alloc (.cells #[.int .i64 k6, .int .i64 0, .int .i64 0] 23)).alloc (.cells #[.pointer (some ⟨wq.heap.size, 2, none⟩), .pointer (some ⟨wq.heap.size, 1, none⟩)] 48)) = W2 at *
      clear hbel hz1 hr0 hr1 hr2 hrf
      generalize wq.heap.size = b at *
      have HPB := Aside0.mk hpb
      have HPP := Aside0.mk hpp
      have hq0 : W2.cell? ⟨b + 1, 0, none⟩ = some (.pointer (some ⟨b, 2, none⟩)) := by rw [blk_cell hpp]; rfl
      have hq1 : W2.cell? ⟨b + 1, 1, none⟩ = some (.pointer (some ⟨b, 1, none⟩)) := by rw [blk_cell hpp]; rfl
      clear hpb hpp
      have hl1 := pieceAt HM2.out 1 x rfl
      refine wp_loop_rounds 2 ?_
      rw [rounds_succ]
      go_wp2_with fail
      refine (digitsAny x (HLs.out x (by simp)) W2 (HE.out.below HM2.out.below)).mono ?_
      rintro e w3 ⟨m, ok3, rfl, hw3, hok3⟩
      have HM3 := Aside0.mk (HM2.out.later hw3)
      rcases hok3 with ⟨rfl, hc3⟩ | ⟨rfl, hno3⟩
      · have HC3 := Lib.hid hc3
        clear hc3
        have hbw3 := (hw3.block _ (blk_in HPB.out)).trans HPB.out
        have hgw3 := (hw3.block _ (blk_in HPP.out)).trans HPP.out
        have hcw3 : w3.cell? ⟨b, 2, none⟩ = some (.int .i64 0) := by rw [blk_cell hbw3]; rfl
        have hfw3 : w3.frozen? ⟨b, 2, none⟩ = false := freeOf hbw3 2
        have HM4 := Aside0.mk ((HM2.out.later hw3).put HT.out b 2 hgb (.int .i64 m))
        have HB4 : Aside0 ((w3.setCell ⟨b, 2, none⟩ (.int .i64 m)).heap[b]? = some (.cells #[.int .i64 k6, .int .i64 0, .int .i64 m] 23)) := ⟨by have e := blk_set hbw3 2 (.int .i64 m); simpa using e⟩
        have HP4 : Aside0 ((w3.setCell ⟨b, 2, none⟩ (.int .i64 m)).heap[b + 1]? = some (.cells #[.pointer (some ⟨b, 2, none⟩), .pointer (some ⟨b, 1, none⟩)] 48)) := ⟨(Below.heap_setCell w3 ⟨b, 2, none⟩ _ _ (by show b + 1 ≠ b; omega)).trans hgw3⟩
        clear hbw3 hgw3 hw3
        clear hl1 hq0 hq1
        go_wp2_with fail
        rw [rounds_succ]
        have hp0 : (w3.setCell ⟨b, 2, none⟩ (.int .i64 m)).cell? ⟨b, 0, none⟩ = some (.int .i64 k6) := by rw [blk_cell HB4.out]; rfl
        have hp1 : (w3.setCell ⟨b, 2, none⟩ (.int .i64 m)).cell? ⟨b, 1, none⟩ = some (.int .i64 0) := by rw [blk_cell HB4.out]; rfl
        have hp2 : (w3.setCell ⟨b, 2, none⟩ (.int .i64 m)).cell? ⟨b, 2, none⟩ = some (.int .i64 m) := by rw [blk_cell HB4.out]; rfl
        go_wp2_with fail
        refine (policyFault k6 0 m _).mono ?_
        rintro e w9 ⟨rfl, h9⟩
        have hb9 := (h9.block _ (blk_in HB4.out)).trans HB4.out
        have HM9 := Aside0.mk (HM4.out.later h9)
        clear hp0 hp1 hp2 h9
        have HG := Aside0.mk (show GoodL k6 ([x]) 0 m from .inl ⟨K1.out, K2.out, x, rfl, HC3.out, rfl⟩)
        have hr := endThree HM9.out.res
        have hr0 := hr 0 (by omega)
        have hr1 := hr 1 (by omega)
        have hr2 := hr 2 (by omega)
        have hrf : ∀ i, w9.frozen? ⟨w.heap.size, i, none⟩ = false := fun i => freeOf HM9.out.res i
        clear hr
        by_cases hf : fault k6 0 m = 0
        · rw [hf]
          have hk0 : w9.cell? ⟨b, 0, none⟩ = some (.int .i64 k6) := by rw [blk_cell hb9]; rfl
          have hk1 : w9.cell? ⟨b, 1, none⟩ = some (.int .i64 0) := by rw [blk_cell hb9]; rfl
          have hk2 : w9.cell? ⟨b, 2, none⟩ = some (.int .i64 m) := by rw [blk_cell hb9]; rfl
          have HF := Lib.hid hf
          clear hf hb9
          obtain ⟨hv0, hv1, hv2⟩ := endCells (u := w9) HM9.out.res (.int .i64 k6) (.int .i64 0) (.int .i64 m)
          have HBW := Aside0.mk (endBelow HM9.out.below (.int .i64 k6) (.int .i64 0) (.int .i64 m))
          have HO := Aside0.mk (out_ok HG.out HF.out)
          go_wp2
          all_goals
            (try simp only [Exit.inBlock, Exit.then])
            refine bodyPost_ret (v := .tuple #[.agg #[.int .i64 k6, .int .i64 0, .int .i64 m], .int .i64 0]) ?_ rfl ⟨k6, 0, m, 0, HLE.out ▸ HO.out, rfl, HBW.out⟩
            rw [results_cell_tmp rfl]
            go_simp
        · have hf2 : (fault k6 0 m == 0) = false := by rw [beq_eq_false_iff_ne]; exact hf
          have HF := Lib.hid hf
          have HFO := Aside0.mk (out_fault HG.out HF.out)
          clear hf hb9 HF HG
          generalize fault k6 0 m = er at *
          obtain ⟨hv0, hv1, hv2⟩ := endCells (u := w9) HM9.out.res (.int .i64 0) (.int .i64 0) (.int .i64 0)
          have HBW := Aside0.mk (endBelow HM9.out.below (.int .i64 0) (.int .i64 0) (.int .i64 0))
          have HO := Aside0.mk (HFO.out)
          go_wp2
          all_goals
            (try simp only [Exit.inBlock, Exit.then])
            refine bodyPost_ret (v := .tuple #[.agg #[.int .i64 0, .int .i64 0, .int .i64 0], .int .i64 er]) ?_ rfl ⟨0, 0, 0, er, HLE.out ▸ HO.out, rfl, HBW.out⟩
            rw [results_cell_tmp rfl]
            go_simp
      · have HN3 := Lib.hid hno3
        clear hno3
        have hr := endThree HM3.out.res
        have hr0 := hr 0 (by omega)
        have hr1 := hr 1 (by omega)
        have hr2 := hr 2 (by omega)
        have hrf : ∀ i, w3.frozen? ⟨w.heap.size, i, none⟩ = false := fun i => freeOf HM3.out.res i
        clear hr
        clear hw3
        obtain ⟨hv0, hv1, hv2⟩ := endCells (u := w3) HM3.out.res (.int .i64 0) (.int .i64 0) (.int .i64 0)
        have HBW := Aside0.mk (endBelow HM3.out.below (.int .i64 0) (.int .i64 0) (.int .i64 0))
        have HO := Aside0.mk (out_bad (K := k6) (L := ([x])) (by rintro s' m' (⟨_, _, x', h, h2, _⟩ | ⟨h, _⟩) <;> first | exact K2.out h | (simp at h; subst h; exact HN3.out _ h2)))
        go_wp2
        all_goals
          (try simp only [Exit.inBlock, Exit.then])
          refine bodyPost_ret (v := .tuple #[.agg #[.int .i64 0, .int .i64 0, .int .i64 0], .int .i64 8]) ?_ rfl ⟨0, 0, 0, 8, HLE.out ▸ HO.out, rfl, HBW.out⟩
          rw [results_cell_tmp rfl]
          go_simp
  | [x, y], HLs, HM, HN, HLE =>
    have hzn : n = 3 := by have := HN.out; simpa using this.symm
    subst hzn
    have k3 : K = 0 ∨ K = 2 ∨ (1 ≤ K ∧ K ≠ 2) := by omega
    rcases k3 with rfl | rfl | ⟨k1, k2⟩
    · have kd : decide (k6 < 1) = true := by rcases HK6.out with h | h <;> exact decide_eq_true (by omega)
      obtain ⟨hv0, hv1, hv2⟩ := endCells (u := wq) HM.out.res (.int .i64 0) (.int .i64 0) (.int .i64 0)
      have HBW := Aside0.mk (endBelow HM.out.below (.int .i64 0) (.int .i64 0) (.int .i64 0))
      have HO := Aside0.mk (out_bad (K := 0) (L := ([x, y])) (by rintro s' m' (⟨h, _⟩ | ⟨h, _⟩) <;> omega))
      go_wp2
      all_goals
        (try simp only [Exit.inBlock, Exit.then])
        refine bodyPost_ret (v := .tuple #[.agg #[.int .i64 0, .int .i64 0, .int .i64 0], .int .i64 8]) ?_ rfl ⟨0, 0, 0, 8, HLE.out ▸ HO.out, rfl, HBW.out⟩
        rw [results_cell_tmp rfl]
        go_simp
    · obtain rfl : k6 = 2 := by rcases HK6.out with h | h <;> omega
      go_wp2_with fail
      have hz1 : (wq.alloc (.cells #[.int .i64 2, .int .i64 0, .int .i64 0] 23)).heap.size = wq.heap.size + 1 := by simp
      have hbel := below_alloc (below_alloc (Below.refl wq.heap.size wq) (.cells #[.int .i64 2, .int .i64 0, .int .i64 0] 23)) (.cells #[.pointer (some ⟨wq.heap.size, 2, none⟩), .pointer (some ⟨wq.heap.size, 1, none⟩)] 48)
      have hpb : ((wq.alloc (.cells #[.int .i64 2, .int .i64 0, .int .i64 0] 23)).alloc (.cells #[.pointer (some ⟨wq.heap.size, 2, none⟩), .pointer (some ⟨wq.heap.size, 1, none⟩)] 48)).heap[wq.heap.size]? = some (.cells #[.int .i64 2, .int .i64 0, .int .i64 0] 23) := by rw [Below.heap_alloc _ _ _ (by simp)]; exact blk_new wq _
      have hpp : ((wq.alloc (.cells #[.int .i64 2, .int .i64 0, .int .i64 0] 23)).alloc (.cells #[.pointer (some ⟨wq.heap.size, 2, none⟩), .pointer (some ⟨wq.heap.size, 1, none⟩)] 48)).heap[wq.heap.size + 1]? = some (.cells #[.pointer (some ⟨wq.heap.size, 2, none⟩), .pointer (some ⟨wq.heap.size, 1, none⟩)] 48) := by rw [← hz1]; exact blk_new _ _
      have hgb : w.heap.size + 1 < wq.heap.size := blk_in HM.out.list
      have HM2 := Aside0.mk (HM.out.later hbel)
      try rw [hz1]
      generalize ((wq.alloc (.cells #[.int .i64 2, .int .i64 0, .int .i64 0] 23)).alloc (.cells #[.pointer (some ⟨wq.heap.size, 2, none⟩), .pointer (some ⟨wq.heap.size, 1, none⟩)] 48)) = W2 at *
      clear hbel hz1 hr0 hr1 hr2 hrf
      generalize wq.heap.size = b at *
      have HPB := Aside0.mk hpb
      have HPP := Aside0.mk hpp
      have hq0 : W2.cell? ⟨b + 1, 0, none⟩ = some (.pointer (some ⟨b, 2, none⟩)) := by rw [blk_cell hpp]; rfl
      have hq1 : W2.cell? ⟨b + 1, 1, none⟩ = some (.pointer (some ⟨b, 1, none⟩)) := by rw [blk_cell hpp]; rfl
      clear hpb hpp
      have hl2 := pieceAt HM2.out 2 y rfl
      refine wp_loop_rounds 3 ?_
      rw [rounds_succ]
      go_wp2_with fail
      refine (digitsAny y (HLs.out y (by simp)) W2 (HE.out.below HM2.out.below)).mono ?_
      rintro e w3 ⟨m, ok3, rfl, hw3, hok3⟩
      have HM3 := Aside0.mk (HM2.out.later hw3)
      rcases hok3 with ⟨rfl, hc3⟩ | ⟨rfl, hno3⟩
      · have HC3 := Lib.hid hc3
        clear hc3
        have hbw3 := (hw3.block _ (blk_in HPB.out)).trans HPB.out
        have hgw3 := (hw3.block _ (blk_in HPP.out)).trans HPP.out
        have hcw3 : w3.cell? ⟨b, 2, none⟩ = some (.int .i64 0) := by rw [blk_cell hbw3]; rfl
        have hfw3 : w3.frozen? ⟨b, 2, none⟩ = false := freeOf hbw3 2
        have HM4 := Aside0.mk ((HM2.out.later hw3).put HT.out b 2 hgb (.int .i64 m))
        have HB4 : Aside0 ((w3.setCell ⟨b, 2, none⟩ (.int .i64 m)).heap[b]? = some (.cells #[.int .i64 2, .int .i64 0, .int .i64 m] 23)) := ⟨by have e := blk_set hbw3 2 (.int .i64 m); simpa using e⟩
        have HP4 : Aside0 ((w3.setCell ⟨b, 2, none⟩ (.int .i64 m)).heap[b + 1]? = some (.cells #[.pointer (some ⟨b, 2, none⟩), .pointer (some ⟨b, 1, none⟩)] 48)) := ⟨(Below.heap_setCell w3 ⟨b, 2, none⟩ _ _ (by show b + 1 ≠ b; omega)).trans hgw3⟩
        clear hbw3 hgw3 hw3
        have hl1 : (w3.setCell ⟨b, 2, none⟩ (.int .i64 m)).cell? ⟨w.heap.size + 1, 1, none⟩ = some (.string x) := pieceAt HM4.out 1 x rfl
        have hv1 : (w3.setCell ⟨b, 2, none⟩ (.int .i64 m)).cell? ⟨b + 1, 1, none⟩ = some (.pointer (some ⟨b, 1, none⟩)) := by rw [blk_cell HP4.out]; rfl
        clear hl2 hq0 hq1
        go_wp2_with fail
        rw [rounds_succ]
        go_wp2_with fail
        refine (digitsAny x (HLs.out x (by simp)) (w3.setCell ⟨b, 2, none⟩ (.int .i64 m)) (HE.out.below HM4.out.below)).mono ?_
        rintro e w5 ⟨n5, ok5, rfl, hw5, hok5⟩
        have HM5 := Aside0.mk (HM4.out.later hw5)
        rcases hok5 with ⟨rfl, hc5⟩ | ⟨rfl, hno5⟩
        · have HC5 := Lib.hid hc5
          clear hc5
          have hbw5 := (hw5.block _ (blk_in HB4.out)).trans HB4.out
          have hgw5 := (hw5.block _ (blk_in HP4.out)).trans HP4.out
          have hcw5 : w5.cell? ⟨b, 1, none⟩ = some (.int .i64 0) := by rw [blk_cell hbw5]; rfl
          have hfw5 : w5.frozen? ⟨b, 1, none⟩ = false := freeOf hbw5 1
          have HM6 := Aside0.mk ((HM4.out.later hw5).put HT.out b 1 hgb (.int .i64 n5))
          have HB6 : Aside0 ((w5.setCell ⟨b, 1, none⟩ (.int .i64 n5)).heap[b]? = some (.cells #[.int .i64 2, .int .i64 n5, .int .i64 m] 23)) := ⟨by have e := blk_set hbw5 1 (.int .i64 n5); simpa using e⟩
          have HP6 : Aside0 ((w5.setCell ⟨b, 1, none⟩ (.int .i64 n5)).heap[b + 1]? = some (.cells #[.pointer (some ⟨b, 2, none⟩), .pointer (some ⟨b, 1, none⟩)] 48)) := ⟨(Below.heap_setCell w5 ⟨b, 1, none⟩ _ _ (by show b + 1 ≠ b; omega)).trans hgw5⟩
          clear hbw5 hgw5 hw5
          clear hl1 hv1 hcw3 hfw3
          go_wp2_with fail
          rw [rounds_succ]
          have hp0 : (w5.setCell ⟨b, 1, none⟩ (.int .i64 n5)).cell? ⟨b, 0, none⟩ = some (.int .i64 2) := by rw [blk_cell HB6.out]; rfl
          have hp1 : (w5.setCell ⟨b, 1, none⟩ (.int .i64 n5)).cell? ⟨b, 1, none⟩ = some (.int .i64 n5) := by rw [blk_cell HB6.out]; rfl
          have hp2 : (w5.setCell ⟨b, 1, none⟩ (.int .i64 n5)).cell? ⟨b, 2, none⟩ = some (.int .i64 m) := by rw [blk_cell HB6.out]; rfl
          go_wp2_with fail
          refine (policyFault 2 n5 m _).mono ?_
          rintro e w9 ⟨rfl, h9⟩
          have hb9 := (h9.block _ (blk_in HB6.out)).trans HB6.out
          have HM9 := Aside0.mk (HM6.out.later h9)
          clear hp0 hp1 hp2 h9
          have HG := Aside0.mk (show GoodL 2 ([x, y]) n5 m from .inr ⟨rfl, x, y, rfl, HC5.out, HC3.out⟩)
          have hr := endThree HM9.out.res
          have hr0 := hr 0 (by omega)
          have hr1 := hr 1 (by omega)
          have hr2 := hr 2 (by omega)
          have hrf : ∀ i, w9.frozen? ⟨w.heap.size, i, none⟩ = false := fun i => freeOf HM9.out.res i
          clear hr
          by_cases hf : fault 2 n5 m = 0
          · rw [hf]
            have hk0 : w9.cell? ⟨b, 0, none⟩ = some (.int .i64 2) := by rw [blk_cell hb9]; rfl
            have hk1 : w9.cell? ⟨b, 1, none⟩ = some (.int .i64 n5) := by rw [blk_cell hb9]; rfl
            have hk2 : w9.cell? ⟨b, 2, none⟩ = some (.int .i64 m) := by rw [blk_cell hb9]; rfl
            have HF := Lib.hid hf
            clear hf hb9
            obtain ⟨hv0, hv1, hv2⟩ := endCells (u := w9) HM9.out.res (.int .i64 2) (.int .i64 n5) (.int .i64 m)
            have HBW := Aside0.mk (endBelow HM9.out.below (.int .i64 2) (.int .i64 n5) (.int .i64 m))
            have HO := Aside0.mk (out_ok HG.out HF.out)
            go_wp2
            all_goals
              (try simp only [Exit.inBlock, Exit.then])
              refine bodyPost_ret (v := .tuple #[.agg #[.int .i64 2, .int .i64 n5, .int .i64 m], .int .i64 0]) ?_ rfl ⟨2, n5, m, 0, HLE.out ▸ HO.out, rfl, HBW.out⟩
              rw [results_cell_tmp rfl]
              go_simp
          · have hf2 : (fault 2 n5 m == 0) = false := by rw [beq_eq_false_iff_ne]; exact hf
            have HF := Lib.hid hf
            have HFO := Aside0.mk (out_fault HG.out HF.out)
            clear hf hb9 HF HG
            generalize fault 2 n5 m = er at *
            obtain ⟨hv0, hv1, hv2⟩ := endCells (u := w9) HM9.out.res (.int .i64 0) (.int .i64 0) (.int .i64 0)
            have HBW := Aside0.mk (endBelow HM9.out.below (.int .i64 0) (.int .i64 0) (.int .i64 0))
            have HO := Aside0.mk (HFO.out)
            go_wp2
            all_goals
              (try simp only [Exit.inBlock, Exit.then])
              refine bodyPost_ret (v := .tuple #[.agg #[.int .i64 0, .int .i64 0, .int .i64 0], .int .i64 er]) ?_ rfl ⟨0, 0, 0, er, HLE.out ▸ HO.out, rfl, HBW.out⟩
              rw [results_cell_tmp rfl]
              go_simp
        · have HN5 := Lib.hid hno5
          clear hno5
          have hr := endThree HM5.out.res
          have hr0 := hr 0 (by omega)
          have hr1 := hr 1 (by omega)
          have hr2 := hr 2 (by omega)
          have hrf : ∀ i, w5.frozen? ⟨w.heap.size, i, none⟩ = false := fun i => freeOf HM5.out.res i
          clear hr
          clear hw5
          obtain ⟨hv0, hv1, hv2⟩ := endCells (u := w5) HM5.out.res (.int .i64 0) (.int .i64 0) (.int .i64 0)
          have HBW := Aside0.mk (endBelow HM5.out.below (.int .i64 0) (.int .i64 0) (.int .i64 0))
          have HO := Aside0.mk (out_bad (K := 2) (L := ([x, y])) (by rintro s' m' (⟨_, h, _⟩ | ⟨_, x', y', h, h3, h4⟩) <;> first | exact h rfl | (simp at h; obtain ⟨h5, h6⟩ := h; subst h5 h6; exact HN5.out _ h3)))
          go_wp2
          all_goals
            (try simp only [Exit.inBlock, Exit.then])
            refine bodyPost_ret (v := .tuple #[.agg #[.int .i64 0, .int .i64 0, .int .i64 0], .int .i64 8]) ?_ rfl ⟨0, 0, 0, 8, HLE.out ▸ HO.out, rfl, HBW.out⟩
            rw [results_cell_tmp rfl]
            go_simp
      · have HN3 := Lib.hid hno3
        clear hno3
        have hr := endThree HM3.out.res
        have hr0 := hr 0 (by omega)
        have hr1 := hr 1 (by omega)
        have hr2 := hr 2 (by omega)
        have hrf : ∀ i, w3.frozen? ⟨w.heap.size, i, none⟩ = false := fun i => freeOf HM3.out.res i
        clear hr
        clear hw3
        obtain ⟨hv0, hv1, hv2⟩ := endCells (u := w3) HM3.out.res (.int .i64 0) (.int .i64 0) (.int .i64 0)
        have HBW := Aside0.mk (endBelow HM3.out.below (.int .i64 0) (.int .i64 0) (.int .i64 0))
        have HO := Aside0.mk (out_bad (K := 2) (L := ([x, y])) (by rintro s' m' (⟨_, h, _⟩ | ⟨_, x', y', h, h3, h4⟩) <;> first | exact h rfl | (simp at h; obtain ⟨h5, h6⟩ := h; subst h5 h6; exact HN3.out _ h4)))
        go_wp2
        all_goals
          (try simp only [Exit.inBlock, Exit.then])
          refine bodyPost_ret (v := .tuple #[.agg #[.int .i64 0, .int .i64 0, .int .i64 0], .int .i64 8]) ?_ rfl ⟨0, 0, 0, 8, HLE.out ▸ HO.out, rfl, HBW.out⟩
          rw [results_cell_tmp rfl]
          go_simp
    · obtain rfl : k6 = K := by rcases HK6.out with h | h <;> omega
      have kb : (k6 == 2) = false := by rw [beq_eq_false_iff_ne]; exact k2
      have kd : decide (k6 < 1) = false := decide_eq_false (by omega)
      have K1 := Lib.hid k1
      have K2 := Lib.hid k2
      obtain ⟨hv0, hv1, hv2⟩ := endCells (u := wq) HM.out.res (.int .i64 0) (.int .i64 0) (.int .i64 0)
      have HBW := Aside0.mk (endBelow HM.out.below (.int .i64 0) (.int .i64 0) (.int .i64 0))
      have HO := Aside0.mk (out_bad (K := k6) (L := ([x, y])) (by rintro s' m' (⟨_, _, x', h, _⟩ | ⟨h, _⟩) <;> first | exact K2.out h | (simp at h)))
      go_wp2
      all_goals
        (try simp only [Exit.inBlock, Exit.then])
        refine bodyPost_ret (v := .tuple #[.agg #[.int .i64 0, .int .i64 0, .int .i64 0], .int .i64 8]) ?_ rfl ⟨0, 0, 0, 8, HLE.out ▸ HO.out, rfl, HBW.out⟩
        rw [results_cell_tmp rfl]
        go_simp
  | x :: y :: z :: L3, HLs, HM, HN, HLE =>
    have hzn : 4 ≤ n := by have := HN.out; simp at this; omega
    have hm2 : ((n : Int) != 2) = true := by rw [bne_iff_ne]; omega
    have hm3 : ((n : Int) != 3) = true := by rw [bne_iff_ne]; omega
    have k3 : K = 0 ∨ K = 2 ∨ (1 ≤ K ∧ K ≠ 2) := by omega
    rcases k3 with rfl | rfl | ⟨k1, k2⟩
    · have kd : decide (k6 < 1) = true := by rcases HK6.out with h | h <;> exact decide_eq_true (by omega)
      obtain ⟨hv0, hv1, hv2⟩ := endCells (u := wq) HM.out.res (.int .i64 0) (.int .i64 0) (.int .i64 0)
      have HBW := Aside0.mk (endBelow HM.out.below (.int .i64 0) (.int .i64 0) (.int .i64 0))
      have HO := Aside0.mk (out_bad (K := 0) (L := (x :: y :: z :: L3)) (by rintro s' m' (⟨h, _⟩ | ⟨h, _⟩) <;> omega))
      go_wp2
      all_goals
        (try simp only [Exit.inBlock, Exit.then])
        refine bodyPost_ret (v := .tuple #[.agg #[.int .i64 0, .int .i64 0, .int .i64 0], .int .i64 8]) ?_ rfl ⟨0, 0, 0, 8, HLE.out ▸ HO.out, rfl, HBW.out⟩
        rw [results_cell_tmp rfl]
        go_simp
    · obtain rfl : k6 = 2 := by rcases HK6.out with h | h <;> omega
      obtain ⟨hv0, hv1, hv2⟩ := endCells (u := wq) HM.out.res (.int .i64 0) (.int .i64 0) (.int .i64 0)
      have HBW := Aside0.mk (endBelow HM.out.below (.int .i64 0) (.int .i64 0) (.int .i64 0))
      have HO := Aside0.mk (out_bad (K := 2) (L := (x :: y :: z :: L3)) (by rintro s' m' (⟨_, h, _⟩ | ⟨_, x', y', h, _⟩) <;> first | exact h rfl | (simp at h)))
      go_wp2
      all_goals
        (try simp only [Exit.inBlock, Exit.then])
        refine bodyPost_ret (v := .tuple #[.agg #[.int .i64 0, .int .i64 0, .int .i64 0], .int .i64 8]) ?_ rfl ⟨0, 0, 0, 8, HLE.out ▸ HO.out, rfl, HBW.out⟩
        rw [results_cell_tmp rfl]
        go_simp
    · obtain rfl : k6 = K := by rcases HK6.out with h | h <;> omega
      have kb : (k6 == 2) = false := by rw [beq_eq_false_iff_ne]; exact k2
      have kd : decide (k6 < 1) = false := decide_eq_false (by omega)
      have K1 := Lib.hid k1
      have K2 := Lib.hid k2
      obtain ⟨hv0, hv1, hv2⟩ := endCells (u := wq) HM.out.res (.int .i64 0) (.int .i64 0) (.int .i64 0)
      have HBW := Aside0.mk (endBelow HM.out.below (.int .i64 0) (.int .i64 0) (.int .i64 0))
      have HO := Aside0.mk (out_bad (K := k6) (L := (x :: y :: z :: L3)) (by rintro s' m' (⟨_, _, x', h, _⟩ | ⟨h, _⟩) <;> first | exact K2.out h | (simp at h)))
      go_wp2
      all_goals
        (try simp only [Exit.inBlock, Exit.then])
        refine bodyPost_ret (v := .tuple #[.agg #[.int .i64 0, .int .i64 0, .int .i64 0], .int .i64 8]) ?_ rfl ⟨0, 0, 0, 8, HLE.out ▸ HO.out, rfl, HBW.out⟩
        rw [results_cell_tmp rfl]
        go_simp
end Go.Proofs.YtnikkejfpnnmcaaDoor.Pol
