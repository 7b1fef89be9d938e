/- Reading a policy that PolicyText wrote: ReadPolicy. -/
import Derived.Test.YtnikkejfpnnmcaaDoorReadPol
namespace Go.Proofs.YtnikkejfpnnmcaaDoor.Pol
set_option linter.unusedVariables false
open Go.RowKit Go.Proofs.YtnikkejfpnnmcaaDoorW.PrintWords Go.Proofs.YtnikkejfpnnmcaaDoorW.PrintLast Go.Proofs.YtnikkejfpnnmcaaDoorW.PrintMore Go.Proofs.YtnikkejfpnnmcaaDoor.Policy
set_option linter.unusedSimpArgs false

set_option maxHeartbeats 4000000 in
set_option maxRecDepth 100000 in
theorem readPolicy_3 (s m : Int) (w : World) (hm : 0 ≤ m ∧ m ≤ 100000) (hf : fault 4 0 m = 0) (hT : Tabs w) (mx : Int) (hx : w.cell? ⟨4, 0, none⟩ = some (.int .i64 mx)) :
    Calls Tryd.prog 11 #[.string (polT 3 s m)] w fun e w' => e = .returned (.tuple #[.agg #[.int .i64 4, .int .i64 0, .int .i64 m], .int .i64 0]) ∧ Below w.heap.size w w' := by
  have hz := pol_size 3 s m (fun h => by omega) hm
  have hzd : decide (200000 < ((polT 3 s m).size : Int)) = false := decide_eq_false (by omega)
  have HSp := Aside0.mk (fun u hu => splitW 3 (by omega) s m (fun h => by omega) hm mx u hu)
  have HT := Aside0.mk hT
  have HX := Aside0.mk hx
  clear hT hx hz
  generalize polT 3 s m = S at *
  have hp : parts 3 s m = [wd 3, itB m] := rfl
  rw [hp] at HSp
  go_enter Tryd.func11, Tryd.ntmps11
  go_wp2_with fail
  refine (HSp.out _ (by exact (Below.cell (below_alloc (Below.refl w.heap.size w) _) (p := ⟨4, 0, none⟩) (old_block HX.out)).trans HX.out)).mono ?_
  rintro e w1 ⟨rfl, hw1⟩
  have HM0 : Aside0 (ReadMid w w1 (wd 3) [itB m]) := ⟨by
    rw [hw1]
    refine ⟨HT.out.below (below_alloc (below_alloc (Below.refl _ _) _) _), below_alloc (below_alloc (Below.refl _ _) _) _, ?_, ?_⟩
    · have := blk_new (w.alloc (.cells #[.int .i64 0, .int .i64 0, .int .i64 0] 23)) (.cells ([wd 3, itB m].map Value.string).toArray 9)
      simpa using this
    · rw [Below.heap_alloc _ _ _ (by simp)]; exact blk_new w _⟩
  have hs0 : (w.alloc (.cells #[.int .i64 0, .int .i64 0, .int .i64 0] 23)).heap.size = w.heap.size + 1 := by simp
  rw [hs0]
  clear hw1 hs0
  have hcell := HM0.out.c0
  go_wp2_with fail
  go_cut [5] (fun z9 wx => ∃ b, z9 = .pointer (some ⟨b, 0, none⟩) ∧ Aside0 (ReadMid w wx (wd 3) [itB m] ∧ w1.heap.size ≤ b ∧ wx.heap[b]? = some (.cells #[.int .i64 4, .int .i64 0, .int .i64 0] 23)))
  case first =>
    have hn0 := fun u => (newCells u).1
    have hn1 := fun u => (newCells u).2.1
    have hn2 := fun u => (newCells u).2.2
    have hnf := newFree
    have hw2 : IntKind.i64.wrap 4 = 4 := IntWalk.i64_in _ (by omega)
    have hB1 : w.heap.size + 1 < w1.heap.size := blk_in HM0.out.list
    go_region_held3 (fun w' => w'.cell? ⟨w.heap.size + 1, 0, none⟩ = some (.string (wd 3)) ∧ Aside0 (ReadMid w w' (wd 3) [itB m] ∧ w1.heap.size ≤ w'.heap.size)) (first | exact keepMid (below_drew (Below.refl _ _)) ⟨hcell, ⟨HM0.out, Nat.le_refl _⟩⟩ | assumption | exact keepMid (below_alloc (Below.refl _ _) _) (by assumption) | exact keepPut HT.out hB1 _ (Nat.le_refl _) _ _ _ (by assumption) | exact keepPut HT.out hB1 _ (midSize (by assumption)) _ _ _ (by assumption)) ((first | (go_at_call 19; refine (fieldsX _ (midOf (by assumption)).tabs).mono ?_; rintro e u' ⟨bF, rfl, hF9, hbF⟩; have hK9 := keepMid hbF (by assumption); (first | ((with_reducible have hAA := allocCellsD hbF); (with_reducible have hEE := Aside0.mk (allocKeepD hbF)); obtain ⟨hA0, hA1, hA2, hAf⟩ := hAA) | ((with_reducible have hAA := allocCells hbF); obtain ⟨hA0, hA1, hA2, hAf⟩ := hAA) | skip); clear hbF) | (go_at_call 23; refine (indexW 3 (by omega) _ _ (by first | exact hF9 | exact (fun i hi => (Below.cell (below_alloc (Below.refl _ _) _) (old_block (hF9 i hi))).trans (hF9 i hi)))).mono ?_; rintro e u' ⟨rfl, rfl⟩)))
    all_goals
      go_wp2_with fail
      go_meet
      exact ⟨_, rfl, ⟨midOf (by assumption), (by first | exact Nat.le_refl _ | exact midSize (by assumption)), (by first | exact blk_new _ _ | exact putThree hEE.out _ _ _)⟩⟩
  case rest =>
    obtain ⟨b, rfl, HMb⟩ := hcut
    have hp0 : wc.cell? ⟨b, 0, none⟩ = some (.int .i64 4) := by rw [blk_cell HMb.out.2.2]; rfl
    have hl1 : wc.cell? ⟨w.heap.size + 1, 1, none⟩ = some (.string (itB m)) := by rw [blk_cell HMb.out.1.list]; rfl
    have hgb : w.heap.size + 1 < b := Nat.lt_of_lt_of_le (blk_in HM0.out.list) HMb.out.2.1
    clear hcell
    go_wp2_with fail
    refine (number_ok m hm.1 hm.2 wc HMb.out.1.tabs).mono ?_
    rintro e w4 ⟨rfl, h4⟩
    have HM3 := HMb.out.1
    have hb4 : w4.heap[b]? = some (.cells #[.int .i64 4, .int .i64 0, .int .i64 0] 23) := (h4.block _ (blk_in HMb.out.2.2)).trans HMb.out.2.2
    have HM4 := Aside0.mk ((HM3.later h4).put HT.out b 2 hgb (.int .i64 m))
    have hb4' : (w4.setCell ⟨b, 2, none⟩ (.int .i64 m)).heap[b]? = some (.cells #[.int .i64 4, .int .i64 0, .int .i64 m] 23) := by
      have e := blk_set hb4 2 (.int .i64 m)
      simpa using e
    have hc4 : w4.cell? ⟨b, 2, none⟩ = some (.int .i64 0) := by rw [blk_cell hb4]; rfl
    have hf4 : w4.frozen? ⟨b, 2, none⟩ = false := freeOf hb4 2
    have hq0 : (w4.setCell ⟨b, 2, none⟩ (.int .i64 m)).cell? ⟨b, 0, none⟩ = some (.int .i64 4) := by rw [blk_cell hb4']; rfl
    have hq1 : (w4.setCell ⟨b, 2, none⟩ (.int .i64 m)).cell? ⟨b, 1, none⟩ = some (.int .i64 0) := by rw [blk_cell hb4']; rfl
    have hq2 : (w4.setCell ⟨b, 2, none⟩ (.int .i64 m)).cell? ⟨b, 2, none⟩ = some (.int .i64 m) := by rw [blk_cell hb4']; rfl
    have HB4 := Aside0.mk hb4'
    clear h4 hb4 hb4' hp0 hl1
    go_wp2_with fail
    refine (checkPolicy 4 0 m _).mono ?_
    rintro e w5 ⟨rfl, h5⟩
    rw [hf]
    have hb5 := (h5.block _ (blk_in HB4.out)).trans HB4.out
    have HM5 := Aside0.mk (HM4.out.later h5)
    have hr0 : w5.cell? ⟨b, 0, none⟩ = some (.int .i64 4) := by rw [blk_cell hb5]; rfl
    have hr1 : w5.cell? ⟨b, 1, none⟩ = some (.int .i64 0) := by rw [blk_cell hb5]; rfl
    have hr2 : w5.cell? ⟨b, 2, none⟩ = some (.int .i64 m) := by rw [blk_cell hb5]; rfl
    have ht0 : w5.cell? ⟨w.heap.size, 0, none⟩ = some (.int .i64 0) := by rw [blk_cell HM5.out.res]; rfl
    have ht1 : w5.cell? ⟨w.heap.size, 1, none⟩ = some (.int .i64 0) := by rw [blk_cell HM5.out.res]; rfl
    have ht2 : w5.cell? ⟨w.heap.size, 2, none⟩ = some (.int .i64 0) := by rw [blk_cell HM5.out.res]; rfl
    have htf : ∀ i, w5.frozen? ⟨w.heap.size, i, none⟩ = false := fun i => freeOf HM5.out.res i
    clear h5 hb5 hq0 hq1 hq2 hc4 hf4
    have e9 := putThree (u := w5) HM5.out.res (.int .i64 4) (.int .i64 0) (.int .i64 m)
    have hv0 : (((w5.setCell ⟨w.heap.size, 0, none⟩ (.int .i64 4)).setCell ⟨w.heap.size, 1, none⟩ (.int .i64 0)).setCell ⟨w.heap.size, 2, none⟩ (.int .i64 m)).cell? ⟨w.heap.size, 0, none⟩ = some (.int .i64 4) := by rw [blk_cell e9]; rfl
    have hv1 : (((w5.setCell ⟨w.heap.size, 0, none⟩ (.int .i64 4)).setCell ⟨w.heap.size, 1, none⟩ (.int .i64 0)).setCell ⟨w.heap.size, 2, none⟩ (.int .i64 m)).cell? ⟨w.heap.size, 1, none⟩ = some (.int .i64 0) := by rw [blk_cell e9]; rfl
    have hv2 : (((w5.setCell ⟨w.heap.size, 0, none⟩ (.int .i64 4)).setCell ⟨w.heap.size, 1, none⟩ (.int .i64 0)).setCell ⟨w.heap.size, 2, none⟩ (.int .i64 m)).cell? ⟨w.heap.size, 2, none⟩ = some (.int .i64 m) := by rw [blk_cell e9]; rfl
    have hbw := ((HM5.out.below.setCell (p := ⟨w.heap.size, 0, none⟩) (Nat.le_refl _) (.int .i64 4)).setCell (p := ⟨w.heap.size, 1, none⟩) (Nat.le_refl _) (.int .i64 0)).setCell (p := ⟨w.heap.size, 2, none⟩) (Nat.le_refl _) (.int .i64 m)
    have HBW := Aside0.mk hbw
    clear e9 hbw
    go_wp2_with fail
    (try simp only [Exit.inBlock, Exit.then])
    refine bodyPost_ret (v := .tuple #[.agg #[.int .i64 4, .int .i64 0, .int .i64 m], .int .i64 0]) ?_ rfl ⟨rfl, HBW.out⟩
    rw [results_cell_tmp rfl]
    go_simp
set_option maxHeartbeats 4000000 in
set_option maxRecDepth 100000 in
theorem readPolicy_4 (s m : Int) (w : World) (hm : 0 ≤ m ∧ m ≤ 100000) (hf : fault 5 0 m = 0) (hT : Tabs w) (mx : Int) (hx : w.cell? ⟨4, 0, none⟩ = some (.int .i64 mx)) :
    Calls Tryd.prog 11 #[.string (polT 4 s m)] w fun e w' => e = .returned (.tuple #[.agg #[.int .i64 5, .int .i64 0, .int .i64 m], .int .i64 0]) ∧ Below w.heap.size w w' := by
  have hz := pol_size 4 s m (fun h => by omega) hm
  have hzd : decide (200000 < ((polT 4 s m).size : Int)) = false := decide_eq_false (by omega)
  have HSp := Aside0.mk (fun u hu => splitW 4 (by omega) s m (fun h => by omega) hm mx u hu)
  have HT := Aside0.mk hT
  have HX := Aside0.mk hx
  clear hT hx hz
  generalize polT 4 s m = S at *
  have hp : parts 4 s m = [wd 4, itB m] := rfl
  rw [hp] at HSp
  go_enter Tryd.func11, Tryd.ntmps11
  go_wp2_with fail
  refine (HSp.out _ (by exact (Below.cell (below_alloc (Below.refl w.heap.size w) _) (p := ⟨4, 0, none⟩) (old_block HX.out)).trans HX.out)).mono ?_
  rintro e w1 ⟨rfl, hw1⟩
  have HM0 : Aside0 (ReadMid w w1 (wd 4) [itB m]) := ⟨by
    rw [hw1]
    refine ⟨HT.out.below (below_alloc (below_alloc (Below.refl _ _) _) _), below_alloc (below_alloc (Below.refl _ _) _) _, ?_, ?_⟩
    · have := blk_new (w.alloc (.cells #[.int .i64 0, .int .i64 0, .int .i64 0] 23)) (.cells ([wd 4, itB m].map Value.string).toArray 9)
      simpa using this
    · rw [Below.heap_alloc _ _ _ (by simp)]; exact blk_new w _⟩
  have hs0 : (w.alloc (.cells #[.int .i64 0, .int .i64 0, .int .i64 0] 23)).heap.size = w.heap.size + 1 := by simp
  rw [hs0]
  clear hw1 hs0
  have hcell := HM0.out.c0
  go_wp2_with fail
  go_cut [5] (fun z9 wx => ∃ b, z9 = .pointer (some ⟨b, 0, none⟩) ∧ Aside0 (ReadMid w wx (wd 4) [itB m] ∧ w1.heap.size ≤ b ∧ wx.heap[b]? = some (.cells #[.int .i64 5, .int .i64 0, .int .i64 0] 23)))
  case first =>
    have hn0 := fun u => (newCells u).1
    have hn1 := fun u => (newCells u).2.1
    have hn2 := fun u => (newCells u).2.2
    have hnf := newFree
    have hw2 : IntKind.i64.wrap 5 = 5 := IntWalk.i64_in _ (by omega)
    have hB1 : w.heap.size + 1 < w1.heap.size := blk_in HM0.out.list
    go_region_held3 (fun w' => w'.cell? ⟨w.heap.size + 1, 0, none⟩ = some (.string (wd 4)) ∧ Aside0 (ReadMid w w' (wd 4) [itB m] ∧ w1.heap.size ≤ w'.heap.size)) (first | exact keepMid (below_drew (Below.refl _ _)) ⟨hcell, ⟨HM0.out, Nat.le_refl _⟩⟩ | assumption | exact keepMid (below_alloc (Below.refl _ _) _) (by assumption) | exact keepPut HT.out hB1 _ (Nat.le_refl _) _ _ _ (by assumption) | exact keepPut HT.out hB1 _ (midSize (by assumption)) _ _ _ (by assumption)) ((first | (go_at_call 19; refine (fieldsX _ (midOf (by assumption)).tabs).mono ?_; rintro e u' ⟨bF, rfl, hF9, hbF⟩; have hK9 := keepMid hbF (by assumption); (first | ((with_reducible have hAA := allocCellsD hbF); (with_reducible have hEE := Aside0.mk (allocKeepD hbF)); obtain ⟨hA0, hA1, hA2, hAf⟩ := hAA) | ((with_reducible have hAA := allocCells hbF); obtain ⟨hA0, hA1, hA2, hAf⟩ := hAA) | skip); clear hbF) | (go_at_call 23; refine (indexW 4 (by omega) _ _ (by first | exact hF9 | exact (fun i hi => (Below.cell (below_alloc (Below.refl _ _) _) (old_block (hF9 i hi))).trans (hF9 i hi)))).mono ?_; rintro e u' ⟨rfl, rfl⟩)))
    all_goals
      go_wp2_with fail
      go_meet
      exact ⟨_, rfl, ⟨midOf (by assumption), (by first | exact Nat.le_refl _ | exact midSize (by assumption)), (by first | exact blk_new _ _ | exact putThree hEE.out _ _ _)⟩⟩
  case rest =>
    obtain ⟨b, rfl, HMb⟩ := hcut
    have hp0 : wc.cell? ⟨b, 0, none⟩ = some (.int .i64 5) := by rw [blk_cell HMb.out.2.2]; rfl
    have hl1 : wc.cell? ⟨w.heap.size + 1, 1, none⟩ = some (.string (itB m)) := by rw [blk_cell HMb.out.1.list]; rfl
    have hgb : w.heap.size + 1 < b := Nat.lt_of_lt_of_le (blk_in HM0.out.list) HMb.out.2.1
    clear hcell
    go_wp2_with fail
    refine (number_ok m hm.1 hm.2 wc HMb.out.1.tabs).mono ?_
    rintro e w4 ⟨rfl, h4⟩
    have HM3 := HMb.out.1
    have hb4 : w4.heap[b]? = some (.cells #[.int .i64 5, .int .i64 0, .int .i64 0] 23) := (h4.block _ (blk_in HMb.out.2.2)).trans HMb.out.2.2
    have HM4 := Aside0.mk ((HM3.later h4).put HT.out b 2 hgb (.int .i64 m))
    have hb4' : (w4.setCell ⟨b, 2, none⟩ (.int .i64 m)).heap[b]? = some (.cells #[.int .i64 5, .int .i64 0, .int .i64 m] 23) := by
      have e := blk_set hb4 2 (.int .i64 m)
      simpa using e
    have hc4 : w4.cell? ⟨b, 2, none⟩ = some (.int .i64 0) := by rw [blk_cell hb4]; rfl
    have hf4 : w4.frozen? ⟨b, 2, none⟩ = false := freeOf hb4 2
    have hq0 : (w4.setCell ⟨b, 2, none⟩ (.int .i64 m)).cell? ⟨b, 0, none⟩ = some (.int .i64 5) := by rw [blk_cell hb4']; rfl
    have hq1 : (w4.setCell ⟨b, 2, none⟩ (.int .i64 m)).cell? ⟨b, 1, none⟩ = some (.int .i64 0) := by rw [blk_cell hb4']; rfl
    have hq2 : (w4.setCell ⟨b, 2, none⟩ (.int .i64 m)).cell? ⟨b, 2, none⟩ = some (.int .i64 m) := by rw [blk_cell hb4']; rfl
    have HB4 := Aside0.mk hb4'
    clear h4 hb4 hb4' hp0 hl1
    go_wp2_with fail
    refine (checkPolicy 5 0 m _).mono ?_
    rintro e w5 ⟨rfl, h5⟩
    rw [hf]
    have hb5 := (h5.block _ (blk_in HB4.out)).trans HB4.out
    have HM5 := Aside0.mk (HM4.out.later h5)
    have hr0 : w5.cell? ⟨b, 0, none⟩ = some (.int .i64 5) := by rw [blk_cell hb5]; rfl
    have hr1 : w5.cell? ⟨b, 1, none⟩ = some (.int .i64 0) := by rw [blk_cell hb5]; rfl
    have hr2 : w5.cell? ⟨b, 2, none⟩ = some (.int .i64 m) := by rw [blk_cell hb5]; rfl
    have ht0 : w5.cell? ⟨w.heap.size, 0, none⟩ = some (.int .i64 0) := by rw [blk_cell HM5.out.res]; rfl
    have ht1 : w5.cell? ⟨w.heap.size, 1, none⟩ = some (.int .i64 0) := by rw [blk_cell HM5.out.res]; rfl
    have ht2 : w5.cell? ⟨w.heap.size, 2, none⟩ = some (.int .i64 0) := by rw [blk_cell HM5.out.res]; rfl
    have htf : ∀ i, w5.frozen? ⟨w.heap.size, i, none⟩ = false := fun i => freeOf HM5.out.res i
    clear h5 hb5 hq0 hq1 hq2 hc4 hf4
    have e9 := putThree (u := w5) HM5.out.res (.int .i64 5) (.int .i64 0) (.int .i64 m)
    have hv0 : (((w5.setCell ⟨w.heap.size, 0, none⟩ (.int .i64 5)).setCell ⟨w.heap.size, 1, none⟩ (.int .i64 0)).setCell ⟨w.heap.size, 2, none⟩ (.int .i64 m)).cell? ⟨w.heap.size, 0, none⟩ = some (.int .i64 5) := by rw [blk_cell e9]; rfl
    have hv1 : (((w5.setCell ⟨w.heap.size, 0, none⟩ (.int .i64 5)).setCell ⟨w.heap.size, 1, none⟩ (.int .i64 0)).setCell ⟨w.heap.size, 2, none⟩ (.int .i64 m)).cell? ⟨w.heap.size, 1, none⟩ = some (.int .i64 0) := by rw [blk_cell e9]; rfl
    have hv2 : (((w5.setCell ⟨w.heap.size, 0, none⟩ (.int .i64 5)).setCell ⟨w.heap.size, 1, none⟩ (.int .i64 0)).setCell ⟨w.heap.size, 2, none⟩ (.int .i64 m)).cell? ⟨w.heap.size, 2, none⟩ = some (.int .i64 m) := by rw [blk_cell e9]; rfl
    have hbw := ((HM5.out.below.setCell (p := ⟨w.heap.size, 0, none⟩) (Nat.le_refl _) (.int .i64 5)).setCell (p := ⟨w.heap.size, 1, none⟩) (Nat.le_refl _) (.int .i64 0)).setCell (p := ⟨w.heap.size, 2, none⟩) (Nat.le_refl _) (.int .i64 m)
    have HBW := Aside0.mk hbw
    clear e9 hbw
    go_wp2_with fail
    (try simp only [Exit.inBlock, Exit.then])
    refine bodyPost_ret (v := .tuple #[.agg #[.int .i64 5, .int .i64 0, .int .i64 m], .int .i64 0]) ?_ rfl ⟨rfl, HBW.out⟩
    rw [results_cell_tmp rfl]
    go_simp
end Go.Proofs.YtnikkejfpnnmcaaDoor.Pol
