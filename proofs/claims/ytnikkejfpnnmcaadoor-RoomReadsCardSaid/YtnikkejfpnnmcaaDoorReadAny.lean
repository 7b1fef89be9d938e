/- room.ReadPolicy, at every string. -/
import Derived.Test.YtnikkejfpnnmcaaDoorReadOut
namespace Go.Proofs.YtnikkejfpnnmcaaDoor.Pol
set_option linter.unusedVariables false
open Go.RowKit Go.Proofs.YtnikkejfpnnmcaaDoorW.PrintWords Go.Proofs.YtnikkejfpnnmcaaDoorW.PrintLast Go.Proofs.YtnikkejfpnnmcaaDoorW.PrintMore Go.Proofs.YtnikkejfpnnmcaaDoor.Policy
set_option linter.unusedSimpArgs false

theorem pieceAt {w wx : World} {a : ByteArray} {L : List ByteArray} (h : ReadMid w wx a L) (j : Nat) (x : ByteArray) (hx : (a :: L)[j]? = some x) : wx.cell? ⟨w.heap.size + 1, j, none⟩ = some (.string x) := by
  rw [blk_cell h.list]
  have e : (((a :: L).map Value.string).toArray)[j]? = ((a :: L)[j]?).map Value.string := by rw [List.getElem?_toArray, List.getElem?_map]
  rw [e, hx]; rfl
theorem endThree {w5 : World} {B : Nat} {t : TypeId} (h : w5.heap[B]? = some (.cells #[.int .i64 0, .int .i64 0, .int .i64 0] t)) : (∀ i, i < 3 → w5.cell? ⟨B, i, none⟩ = some (.int .i64 0)) := by
  intro i hi
  rw [blk_cell h]
  have : i = 0 ∨ i = 1 ∨ i = 2 := by omega
  rcases this with rfl | rfl | rfl <;> rfl

theorem endCells {u : World} {B : Nat} {t : TypeId} (h : u.heap[B]? = some (.cells #[.int .i64 0, .int .i64 0, .int .i64 0] t)) (v0 v1 v2 : Value) :
    (((u.setCell ⟨B, 0, none⟩ v0).setCell ⟨B, 1, none⟩ v1).setCell ⟨B, 2, none⟩ v2).cell? ⟨B, 0, none⟩ = some v0 ∧ (((u.setCell ⟨B, 0, none⟩ v0).setCell ⟨B, 1, none⟩ v1).setCell ⟨B, 2, none⟩ v2).cell? ⟨B, 1, none⟩ = some v1 ∧ (((u.setCell ⟨B, 0, none⟩ v0).setCell ⟨B, 1, none⟩ v1).setCell ⟨B, 2, none⟩ v2).cell? ⟨B, 2, none⟩ = some v2 := by
  have e9 := putThree h v0 v1 v2
  refine ⟨?_, ?_, ?_⟩ <;> rw [blk_cell e9] <;> rfl
theorem endBelow {w u : World} (h : Below w.heap.size w u) (v0 v1 v2 : Value) : Below w.heap.size w (((u.setCell ⟨w.heap.size, 0, none⟩ v0).setCell ⟨w.heap.size, 1, none⟩ v1).setCell ⟨w.heap.size, 2, none⟩ v2) :=
  ((h.setCell (p := ⟨w.heap.size, 0, none⟩) (Nat.le_refl _) v0).setCell (p := ⟨w.heap.size, 1, none⟩) (Nat.le_refl _) v1).setCell (p := ⟨w.heap.size, 2, none⟩) (Nat.le_refl _) v2

set_option maxHeartbeats 40000000 in
set_option maxRecDepth 100000 in
theorem readAny (s : ByteArray) (w : World) (a : ByteArray) (L : List ByteArray) (K : Int) (hs : s.size ≤ 200000) (hLs : ∀ x ∈ a :: L, x.size ≤ 200000) (hLl : L.length ≤ 200000) (hK0 : 0 ≤ K) (hK5 : K ≤ 5) (hK : Lib.idxOfS fives a = K - 1)
    (hsp : ∀ (w : World) (mx : Int), w.cell? ⟨4, 0, none⟩ = some (.int .i64 mx) →
      Calls Tryd.prog 22 #[.string s, .string ⟨#[32]⟩] w fun e w' => e = .returned (.slice (some ⟨w.heap.size, 0, none⟩) (a :: L).length (a :: L).length) ∧ w' = w.alloc (.cells ((a :: L).map Value.string).toArray 9))
    (hT : Tabs w) (hE : Errs w) (mx : Int) (hx : w.cell? ⟨4, 0, none⟩ = some (.int .i64 mx)) :
    Calls Tryd.prog 11 #[.string s] w fun e w' => OutSays K L w e w' := by
  have hzd : decide (200000 < (s.size : Int)) = false := decide_eq_false (by omega)
  have HSp := Lib.hid hsp
  have HT := Aside0.mk hT
  have HE := Aside0.mk hE
  have HX := Aside0.mk hx
  have HK := Lib.hid hK
  have HLs := Lib.hid hLs
  clear hT hE hx hsp hK hLs
  go_enter Tryd.func11, Tryd.ntmps11
  go_wp2_with fail
  refine (HSp.out _ mx (by exact (Below.cell (below_alloc (Below.refl w.heap.size w) _) (p := ⟨4, 0, none⟩) (old_block HX.out)).trans HX.out)).mono ?_
  rintro e w1 ⟨rfl, hw1⟩
  have HM0 : Aside0 (ReadMid w w1 a L) := ⟨by
    rw [hw1]
    refine ⟨HT.out.below (below_alloc (below_alloc (Below.refl _ _) _) _), below_alloc (below_alloc (Below.refl _ _) _) _, ?_, ?_⟩
    · have := blk_new (w.alloc (.cells #[.int .i64 0, .int .i64 0, .int .i64 0] 23)) (.cells ((a :: L).map Value.string).toArray 9)
      simpa using this
    · rw [Below.heap_alloc _ _ _ (by simp)]; exact blk_new w _⟩
  have hs0 : (w.alloc (.cells #[.int .i64 0, .int .i64 0, .int .i64 0] 23)).heap.size = w.heap.size + 1 := by simp
  rw [hs0]
  clear hw1 hs0
  have hcell := HM0.out.c0
  have hlen : (a :: L).length = L.length + 1 := rfl
  rw [hlen]
  clear hlen
  generalize hn : L.length + 1 = n
  have hn1 : 0 < n := by omega
  have hn2 : (0 : Int) < (n : Int) := by omega
  have HN := Lib.hid hn
  clear hn
  go_wp2_with fail
  go_cut [5] (fun z9 wx => ∃ b, z9 = .pointer (some ⟨b, 0, none⟩) ∧ Aside0 (ReadMid w wx a L ∧ w1.heap.size ≤ b ∧ wx.heap[b]? = some (.cells #[.int .i64 K, .int .i64 0, .int .i64 0] 23)))
  case first =>
    have hn0 := fun u => (newCells u).1
    have hn1 := fun u => (newCells u).2.1
    have hn2 := fun u => (newCells u).2.2
    have hnf := newFree
    have hw2 : IntKind.i64.wrap K = K := IntWalk.i64_in _ (by omega)
    have hB1 : w.heap.size + 1 < w1.heap.size := blk_in HM0.out.list
    go_region_held3 (fun w' => w'.cell? ⟨w.heap.size + 1, 0, none⟩ = some (.string a) ∧ Aside0 (ReadMid w w' a L ∧ w1.heap.size ≤ w'.heap.size)) (first | exact keepMid (below_drew (Below.refl _ _)) ⟨hcell, ⟨HM0.out, Nat.le_refl _⟩⟩ | assumption | exact keepMid (below_alloc (Below.refl _ _) _) (by assumption) | exact keepPut HT.out hB1 _ (Nat.le_refl _) _ _ _ (by assumption) | exact keepPut HT.out hB1 _ (midSize (by assumption)) _ _ _ (by assumption)) ((first | (go_at_call 19; refine (fieldsX _ (midOf (by assumption)).tabs).mono ?_; rintro e u' ⟨bF, rfl, hF9, hbF⟩; have hK9 := keepMid hbF (by assumption); (first | ((with_reducible have hAA := allocCellsD hbF); (with_reducible have hEE := Aside0.mk (allocKeepD hbF)); obtain ⟨hA0, hA1, hA2, hAf⟩ := hAA) | ((with_reducible have hAA := allocCells hbF); obtain ⟨hA0, hA1, hA2, hAf⟩ := hAA) | skip); clear hbF) | (go_at_call 23; refine (index5 a K HK.out _ _ (by first | exact hF9 | exact (fun i hi => (Below.cell (below_alloc (Below.refl _ _) _) (old_block (hF9 i hi))).trans (hF9 i hi)))).mono ?_; rintro e u' ⟨rfl, rfl⟩)))
    all_goals
      go_wp2_with fail
      go_meet
      exact ⟨_, rfl, ⟨midOf (by assumption), (by first | exact Nat.le_refl _ | exact midSize (by assumption)), (by first | exact blk_new _ _ | exact putThree hEE.out _ _ _)⟩⟩
  case rest =>
    obtain ⟨b, rfl, HMb⟩ := hcut
    have hp0 : wc.cell? ⟨b, 0, none⟩ = some (.int .i64 K) := by rw [blk_cell HMb.out.2.2]; rfl
    have hgb : w.heap.size + 1 < b := Nat.lt_of_lt_of_le (blk_in HM0.out.list) HMb.out.2.1
    have HB2 := Aside0.mk HMb.out.2.2
    have HM := Aside0.mk HMb.out.1
    have hr := endThree HM.out.res
    have hr0 := hr 0 (by omega)
    have hr1 := hr 1 (by omega)
    have hr2 := hr 2 (by omega)
    have hrf : ∀ i, wc.frozen? ⟨w.heap.size, i, none⟩ = false := fun i => freeOf HM.out.res i
    clear hcell HMb hr
    obtain ⟨L', hL'⟩ : ∃ L', L' = L := ⟨L, rfl⟩
    rw [← hL'] at HLs HM HN
    have HLE := Lib.hid hL'
    clear hL' HK HM0 HSp
    match L', HLs, HM, HN, HLE with
    | [], HLs, HM, HN, HLE =>
      have h1n : n = 1 := by have := HN.out; simpa using this.symm
      subst h1n
      obtain ⟨hv0, hv1, hv2⟩ := endCells (u := wc) HM.out.res (.int .i64 0) (.int .i64 0) (.int .i64 0)
      have HBW := Aside0.mk (endBelow HM.out.below (.int .i64 0) (.int .i64 0) (.int .i64 0))
      have HO := Aside0.mk (out_bad (K := K) (L := []) (by rintro s' m' (⟨_, _, x', h, _⟩ | ⟨_, x', y', h, _⟩) <;> cases h))
      go_wp2
      all_goals
        (try simp only [Exit.inBlock, Exit.then])
        refine bodyPost_ret (v := .tuple #[.agg #[.int .i64 0, .int .i64 0, .int .i64 0], .int .i64 8]) ?_ rfl ⟨0, 0, 0, 8, HLE.out ▸ HO.out, rfl, HBW.out⟩
        rw [results_cell_tmp rfl]
        go_simp
    | [x], HLs, HM, HN, HLE =>
      have h2n : n = 2 := by have := HN.out; simpa using this.symm
      subst h2n
      have k3 : K = 0 ∨ K = 2 ∨ (1 ≤ K ∧ K ≠ 2) := by omega
      rcases k3 with rfl | rfl | ⟨k1, k2⟩
      ·
        have hl1 := pieceAt HM.out 1 x rfl
        go_wp2_with fail
        refine (numberAny x (HLs.out x (by simp)) wc HM.out.tabs (HE.out.below HM.out.below)).mono ?_
        rintro e w7 ⟨m, ok7, rfl, hw7, hok7⟩
        have HM7 := Aside0.mk (HM.out.later hw7)
        rcases hok7 with ⟨rfl, hc7⟩ | ⟨rfl, hno7⟩
        · have HC7 := Lib.hid hc7
          clear hc7
          have hr := endThree HM7.out.res
          have hr0 := hr 0 (by omega)
          have hr1 := hr 1 (by omega)
          have hr2 := hr 2 (by omega)
          have hrf : ∀ i, w7.frozen? ⟨w.heap.size, i, none⟩ = false := fun i => freeOf HM7.out.res i
          clear hr
          clear hw7
          obtain ⟨hv0, hv1, hv2⟩ := endCells (u := w7) HM7.out.res (.int .i64 0) (.int .i64 0) (.int .i64 0)
          have HBW := Aside0.mk (endBelow HM7.out.below (.int .i64 0) (.int .i64 0) (.int .i64 0))
          have HO := Aside0.mk (out_bad (K := 0) (L := [x]) (by rintro s' m' (⟨h, _⟩ | ⟨h, _⟩) <;> omega))
          go_wp2
          all_goals
            (try simp only [Exit.inBlock, Exit.then])
            refine bodyPost_ret (v := .tuple #[.agg #[.int .i64 0, .int .i64 0, .int .i64 0], .int .i64 8]) ?_ rfl ⟨0, 0, 0, 8, HLE.out ▸ HO.out, rfl, HBW.out⟩
            rw [results_cell_tmp rfl]
            go_simp
        · have HN7 := Lib.hid hno7
          clear hno7
          have hr := endThree HM7.out.res
          have hr0 := hr 0 (by omega)
          have hr1 := hr 1 (by omega)
          have hr2 := hr 2 (by omega)
          have hrf : ∀ i, w7.frozen? ⟨w.heap.size, i, none⟩ = false := fun i => freeOf HM7.out.res i
          clear hr
          clear hw7
          obtain ⟨hv0, hv1, hv2⟩ := endCells (u := w7) HM7.out.res (.int .i64 0) (.int .i64 0) (.int .i64 0)
          have HBW := Aside0.mk (endBelow HM7.out.below (.int .i64 0) (.int .i64 0) (.int .i64 0))
          have HO := Aside0.mk (out_bad (K := 0) (L := [x]) (by rintro s' m' (⟨h, _⟩ | ⟨h, _⟩) <;> omega))
          go_wp2
          all_goals
            (try simp only [Exit.inBlock, Exit.then])
            refine bodyPost_ret (v := .tuple #[.agg #[.int .i64 0, .int .i64 0, .int .i64 0], .int .i64 8]) ?_ rfl ⟨0, 0, 0, 8, HLE.out ▸ HO.out, rfl, HBW.out⟩
            rw [results_cell_tmp rfl]
            go_simp
      · have hl1 := pieceAt HM.out 1 x rfl
        have hp1 : wc.cell? ⟨b, 1, none⟩ = some (.int .i64 0) := by rw [blk_cell HB2.out]; rfl
        go_wp2_with fail
        refine (numberAny x (HLs.out x (by simp)) wc HM.out.tabs (HE.out.below HM.out.below)).mono ?_
        rintro e w3 ⟨n3, ok3, rfl, hw3, hok3⟩
        have hbw3 := (hw3.block _ (blk_in HB2.out)).trans HB2.out
        have hcw3 : w3.cell? ⟨b, 1, none⟩ = some (.int .i64 0) := by rw [blk_cell hbw3]; rfl
        have hfw3 : w3.frozen? ⟨b, 1, none⟩ = false := freeOf hbw3 1
        have HM4 := Aside0.mk ((HM.out.later hw3).put HT.out b 1 hgb (.int .i64 n3))
        have HB4 : Aside0 ((w3.setCell ⟨b, 1, none⟩ (.int .i64 n3)).heap[b]? = some (.cells #[.int .i64 2, .int .i64 n3, .int .i64 0] 23)) := ⟨by have e := blk_set hbw3 1 (.int .i64 n3); simpa using e⟩
        clear hbw3 hw3
        have hr := endThree HM4.out.res
        have hr0 := hr 0 (by omega)
        have hr1 := hr 1 (by omega)
        have hr2 := hr 2 (by omega)
        have hrf : ∀ i, (w3.setCell ⟨b, 1, none⟩ (.int .i64 n3)).frozen? ⟨w.heap.size, i, none⟩ = false := fun i => freeOf HM4.out.res i
        clear hr
        clear hok3
        obtain ⟨hv0, hv1, hv2⟩ := endCells (u := (w3.setCell ⟨b, 1, none⟩ (.int .i64 n3))) HM4.out.res (.int .i64 0) (.int .i64 0) (.int .i64 0)
        have HBW := Aside0.mk (endBelow HM4.out.below (.int .i64 0) (.int .i64 0) (.int .i64 0))
        have HO := Aside0.mk (out_bad (K := 2) (L := [x]) (by rintro s' m' (⟨_, h, _⟩ | ⟨_, x', y', h, _⟩) <;> first | exact h rfl | (simp at h)))
        go_wp2
        all_goals
          (try simp only [Exit.inBlock, Exit.then])
          refine bodyPost_ret (v := .tuple #[.agg #[.int .i64 0, .int .i64 0, .int .i64 0], .int .i64 8]) ?_ rfl ⟨0, 0, 0, 8, HLE.out ▸ HO.out, rfl, HBW.out⟩
          rw [results_cell_tmp rfl]
          go_simp
      · have kb : (K == 2) = false := by rw [beq_eq_false_iff_ne]; exact k2
        have kd : decide (1 ≤ K) = true := decide_eq_true k1
        have hl1 := pieceAt HM.out 1 x rfl
        go_wp2_with fail
        refine (numberAny x (HLs.out x (by simp)) wc HM.out.tabs (HE.out.below HM.out.below)).mono ?_
        rintro e w7 ⟨m, ok7, rfl, hw7, hok7⟩
        have HM7 := Aside0.mk (HM.out.later hw7)
        rcases hok7 with ⟨rfl, hc7⟩ | ⟨rfl, hno7⟩
        · have HC7 := Lib.hid hc7
          clear hc7
          have HG := Aside0.mk (show GoodL K [x] 0 m from .inl ⟨k1, k2, x, rfl, HC7.out, rfl⟩)
          have hbw7 := (hw7.block _ (blk_in HB2.out)).trans HB2.out
          have hcw7 : w7.cell? ⟨b, 2, none⟩ = some (.int .i64 0) := by rw [blk_cell hbw7]; rfl
          have hfw7 : w7.frozen? ⟨b, 2, none⟩ = false := freeOf hbw7 2
          have HM8 := Aside0.mk ((HM.out.later hw7).put HT.out b 2 hgb (.int .i64 m))
          have HB8 : Aside0 ((w7.setCell ⟨b, 2, none⟩ (.int .i64 m)).heap[b]? = some (.cells #[.int .i64 K, .int .i64 0, .int .i64 m] 23)) := ⟨by have e := blk_set hbw7 2 (.int .i64 m); simpa using e⟩
          clear hbw7 hw7
          have hq0 : (w7.setCell ⟨b, 2, none⟩ (.int .i64 m)).cell? ⟨b, 0, none⟩ = some (.int .i64 K) := by rw [blk_cell HB8.out]; rfl
          have hq1 : (w7.setCell ⟨b, 2, none⟩ (.int .i64 m)).cell? ⟨b, 1, none⟩ = some (.int .i64 0) := by rw [blk_cell HB8.out]; rfl
          have hq2 : (w7.setCell ⟨b, 2, none⟩ (.int .i64 m)).cell? ⟨b, 2, none⟩ = some (.int .i64 m) := by rw [blk_cell HB8.out]; rfl
          go_wp2_with fail
          refine (checkPolicy K 0 m _).mono ?_
          rintro e w9 ⟨rfl, h9⟩
          have hb9 := (h9.block _ (blk_in HB8.out)).trans HB8.out
          have HM9 := Aside0.mk (HM8.out.later h9)
          clear hq0 hq1 hq2 hcw7 hfw7 h9
          have hr := endThree HM9.out.res
          have hr0 := hr 0 (by omega)
          have hr1 := hr 1 (by omega)
          have hr2 := hr 2 (by omega)
          have hrf : ∀ i, w9.frozen? ⟨w.heap.size, i, none⟩ = false := fun i => freeOf HM9.out.res i
          clear hr
          by_cases hf : fault K 0 m = 0
          · rw [hf]
            have hk0 : w9.cell? ⟨b, 0, none⟩ = some (.int .i64 K) := by rw [blk_cell hb9]; rfl
            have hk1 : w9.cell? ⟨b, 1, none⟩ = some (.int .i64 0) := by rw [blk_cell hb9]; rfl
            have hk2 : w9.cell? ⟨b, 2, none⟩ = some (.int .i64 m) := by rw [blk_cell hb9]; rfl
            have HF := Lib.hid hf
            clear hf hb9
            obtain ⟨hv0, hv1, hv2⟩ := endCells (u := w9) HM9.out.res (.int .i64 K) (.int .i64 0) (.int .i64 m)
            have HBW := Aside0.mk (endBelow HM9.out.below (.int .i64 K) (.int .i64 0) (.int .i64 m))
            have HO := Aside0.mk (out_ok HG.out HF.out)
            go_wp2
            all_goals
              (try simp only [Exit.inBlock, Exit.then])
              refine bodyPost_ret (v := .tuple #[.agg #[.int .i64 K, .int .i64 0, .int .i64 m], .int .i64 0]) ?_ rfl ⟨K, 0, m, 0, HLE.out ▸ HO.out, rfl, HBW.out⟩
              rw [results_cell_tmp rfl]
              go_simp
          · have hf2 : (fault K 0 m == 0) = false := by rw [beq_eq_false_iff_ne]; exact hf
            have HF := Lib.hid hf
            have HFO := Aside0.mk (out_fault HG.out HF.out)
            clear hf hb9 HF HG
            generalize fault K 0 m = er at *
            obtain ⟨hv0, hv1, hv2⟩ := endCells (u := w9) HM9.out.res (.int .i64 0) (.int .i64 0) (.int .i64 0)
            have HBW := Aside0.mk (endBelow HM9.out.below (.int .i64 0) (.int .i64 0) (.int .i64 0))
            have HO := Aside0.mk (HFO.out)
            go_wp2
            all_goals
              (try simp only [Exit.inBlock, Exit.then])
              refine bodyPost_ret (v := .tuple #[.agg #[.int .i64 0, .int .i64 0, .int .i64 0], .int .i64 er]) ?_ rfl ⟨0, 0, 0, er, HLE.out ▸ HO.out, rfl, HBW.out⟩
              rw [results_cell_tmp rfl]
              go_simp
        · have HN7 := Lib.hid hno7
          clear hno7
          have hr := endThree HM7.out.res
          have hr0 := hr 0 (by omega)
          have hr1 := hr 1 (by omega)
          have hr2 := hr 2 (by omega)
          have hrf : ∀ i, w7.frozen? ⟨w.heap.size, i, none⟩ = false := fun i => freeOf HM7.out.res i
          clear hr
          clear hw7
          obtain ⟨hv0, hv1, hv2⟩ := endCells (u := w7) HM7.out.res (.int .i64 0) (.int .i64 0) (.int .i64 0)
          have HBW := Aside0.mk (endBelow HM7.out.below (.int .i64 0) (.int .i64 0) (.int .i64 0))
          have HO := Aside0.mk (out_bad (K := K) (L := [x]) (by rintro s' m' (⟨_, _, x', h, h2, _⟩ | ⟨_, x', y', h, _⟩) <;> simp at h <;> (subst h; exact HN7.out _ h2)))
          go_wp2
          all_goals
            (try simp only [Exit.inBlock, Exit.then])
            refine bodyPost_ret (v := .tuple #[.agg #[.int .i64 0, .int .i64 0, .int .i64 0], .int .i64 8]) ?_ rfl ⟨0, 0, 0, 8, HLE.out ▸ HO.out, rfl, HBW.out⟩
            rw [results_cell_tmp rfl]
            go_simp
    | [x, y], HLs, HM, HN, HLE =>
      have h3n : n = 3 := by have := HN.out; simpa using this.symm
      subst h3n
      by_cases k2 : K = 2
      · subst k2
        have hl1 := pieceAt HM.out 1 x rfl
        go_wp2_with fail
        refine (numberAny x (HLs.out x (by simp)) wc HM.out.tabs (HE.out.below HM.out.below)).mono ?_
        rintro e w3 ⟨n3, ok3, rfl, hw3, hok3⟩
        have hbw3 := (hw3.block _ (blk_in HB2.out)).trans HB2.out
        have hcw3 : w3.cell? ⟨b, 1, none⟩ = some (.int .i64 0) := by rw [blk_cell hbw3]; rfl
        have hfw3 : w3.frozen? ⟨b, 1, none⟩ = false := freeOf hbw3 1
        have HM4 := Aside0.mk ((HM.out.later hw3).put HT.out b 1 hgb (.int .i64 n3))
        have HB4 : Aside0 ((w3.setCell ⟨b, 1, none⟩ (.int .i64 n3)).heap[b]? = some (.cells #[.int .i64 2, .int .i64 n3, .int .i64 0] 23)) := ⟨by have e := blk_set hbw3 1 (.int .i64 n3); simpa using e⟩
        clear hbw3 hw3
        clear hl1 hp0 hr0 hr1 hr2 hrf
        rcases hok3 with ⟨rfl, hc3⟩ | ⟨rfl, hno3⟩
        · have HC3 := Lib.hid hc3
          clear hc3
          have hl2 := pieceAt HM4.out 2 y rfl
          go_wp2_with fail
          refine (numberAny y (HLs.out y (by simp)) (w3.setCell ⟨b, 1, none⟩ (.int .i64 n3)) HM4.out.tabs (HE.out.below HM4.out.below)).mono ?_
          rintro e w7 ⟨m, ok7, rfl, hw7, hok7⟩
          have HM7 := Aside0.mk (HM4.out.later hw7)
          rcases hok7 with ⟨rfl, hc7⟩ | ⟨rfl, hno7⟩
          · have HC7 := Lib.hid hc7
            clear hc7
            have HG := Aside0.mk (show GoodL 2 [x, y] n3 m from .inr ⟨rfl, x, y, rfl, HC3.out, HC7.out⟩)
            have hbw7 := (hw7.block _ (blk_in HB4.out)).trans HB4.out
            have hcw7 : w7.cell? ⟨b, 2, none⟩ = some (.int .i64 0) := by rw [blk_cell hbw7]; rfl
            have hfw7 : w7.frozen? ⟨b, 2, none⟩ = false := freeOf hbw7 2
            have HM8 := Aside0.mk ((HM4.out.later hw7).put HT.out b 2 hgb (.int .i64 m))
            have HB8 : Aside0 ((w7.setCell ⟨b, 2, none⟩ (.int .i64 m)).heap[b]? = some (.cells #[.int .i64 2, .int .i64 n3, .int .i64 m] 23)) := ⟨by have e := blk_set hbw7 2 (.int .i64 m); simpa using e⟩
            clear hbw7 hw7
            have hq0 : (w7.setCell ⟨b, 2, none⟩ (.int .i64 m)).cell? ⟨b, 0, none⟩ = some (.int .i64 2) := by rw [blk_cell HB8.out]; rfl
            have hq1 : (w7.setCell ⟨b, 2, none⟩ (.int .i64 m)).cell? ⟨b, 1, none⟩ = some (.int .i64 n3) := by rw [blk_cell HB8.out]; rfl
            have hq2 : (w7.setCell ⟨b, 2, none⟩ (.int .i64 m)).cell? ⟨b, 2, none⟩ = some (.int .i64 m) := by rw [blk_cell HB8.out]; rfl
            go_wp2_with fail
            refine (checkPolicy 2 n3 m _).mono ?_
            rintro e w9 ⟨rfl, h9⟩
            have hb9 := (h9.block _ (blk_in HB8.out)).trans HB8.out
            have HM9 := Aside0.mk (HM8.out.later h9)
            clear hq0 hq1 hq2 hcw7 hfw7 h9
            have hr := endThree HM9.out.res
            have hr0 := hr 0 (by omega)
            have hr1 := hr 1 (by omega)
            have hr2 := hr 2 (by omega)
            have hrf : ∀ i, w9.frozen? ⟨w.heap.size, i, none⟩ = false := fun i => freeOf HM9.out.res i
            clear hr
            by_cases hf : fault 2 n3 m = 0
            · rw [hf]
              have hk0 : w9.cell? ⟨b, 0, none⟩ = some (.int .i64 2) := by rw [blk_cell hb9]; rfl
              have hk1 : w9.cell? ⟨b, 1, none⟩ = some (.int .i64 n3) := by rw [blk_cell hb9]; rfl
              have hk2 : w9.cell? ⟨b, 2, none⟩ = some (.int .i64 m) := by rw [blk_cell hb9]; rfl
              have HF := Lib.hid hf
              clear hf hb9
              obtain ⟨hv0, hv1, hv2⟩ := endCells (u := w9) HM9.out.res (.int .i64 2) (.int .i64 n3) (.int .i64 m)
              have HBW := Aside0.mk (endBelow HM9.out.below (.int .i64 2) (.int .i64 n3) (.int .i64 m))
              have HO := Aside0.mk (out_ok HG.out HF.out)
              go_wp2
              all_goals
                (try simp only [Exit.inBlock, Exit.then])
                refine bodyPost_ret (v := .tuple #[.agg #[.int .i64 2, .int .i64 n3, .int .i64 m], .int .i64 0]) ?_ rfl ⟨2, n3, m, 0, HLE.out ▸ HO.out, rfl, HBW.out⟩
                rw [results_cell_tmp rfl]
                go_simp
            · have hf2 : (fault 2 n3 m == 0) = false := by rw [beq_eq_false_iff_ne]; exact hf
              have HF := Lib.hid hf
              have HFO := Aside0.mk (out_fault HG.out HF.out)
              clear hf hb9 HF HG
              generalize fault 2 n3 m = er at *
              obtain ⟨hv0, hv1, hv2⟩ := endCells (u := w9) HM9.out.res (.int .i64 0) (.int .i64 0) (.int .i64 0)
              have HBW := Aside0.mk (endBelow HM9.out.below (.int .i64 0) (.int .i64 0) (.int .i64 0))
              have HO := Aside0.mk (HFO.out)
              go_wp2
              all_goals
                (try simp only [Exit.inBlock, Exit.then])
                refine bodyPost_ret (v := .tuple #[.agg #[.int .i64 0, .int .i64 0, .int .i64 0], .int .i64 er]) ?_ rfl ⟨0, 0, 0, er, HLE.out ▸ HO.out, rfl, HBW.out⟩
                rw [results_cell_tmp rfl]
                go_simp
          · have HN7 := Lib.hid hno7
            clear hno7
            have hr := endThree HM7.out.res
            have hr0 := hr 0 (by omega)
            have hr1 := hr 1 (by omega)
            have hr2 := hr 2 (by omega)
            have hrf : ∀ i, w7.frozen? ⟨w.heap.size, i, none⟩ = false := fun i => freeOf HM7.out.res i
            clear hr
            clear hw7
            obtain ⟨hv0, hv1, hv2⟩ := endCells (u := w7) HM7.out.res (.int .i64 0) (.int .i64 0) (.int .i64 0)
            have HBW := Aside0.mk (endBelow HM7.out.below (.int .i64 0) (.int .i64 0) (.int .i64 0))
            have HO := Aside0.mk (out_bad (K := 2) (L := [x, y]) (by rintro s' m' (⟨_, _, x', h, h2, _⟩ | ⟨_, x', y', h, h3, h4⟩) <;> simp at h <;> (obtain ⟨h5, h6⟩ := h; subst h5 h6; exact HN7.out _ h4)))
            go_wp2
            all_goals
              (try simp only [Exit.inBlock, Exit.then])
              refine bodyPost_ret (v := .tuple #[.agg #[.int .i64 0, .int .i64 0, .int .i64 0], .int .i64 8]) ?_ rfl ⟨0, 0, 0, 8, HLE.out ▸ HO.out, rfl, HBW.out⟩
              rw [results_cell_tmp rfl]
              go_simp
        · have HN3 := Lib.hid hno3
          clear hno3
          have hl2 := pieceAt HM4.out 2 y rfl
          go_wp2_with fail
          refine (numberAny y (HLs.out y (by simp)) (w3.setCell ⟨b, 1, none⟩ (.int .i64 n3)) HM4.out.tabs (HE.out.below HM4.out.below)).mono ?_
          rintro e w7 ⟨m, ok7, rfl, hw7, hok7⟩
          have HM7 := Aside0.mk (HM4.out.later hw7)
          rcases hok7 with ⟨rfl, hc7⟩ | ⟨rfl, hno7⟩
          · have HC7 := Lib.hid hc7
            clear hc7
            have hr := endThree HM7.out.res
            have hr0 := hr 0 (by omega)
            have hr1 := hr 1 (by omega)
            have hr2 := hr 2 (by omega)
            have hrf : ∀ i, w7.frozen? ⟨w.heap.size, i, none⟩ = false := fun i => freeOf HM7.out.res i
            clear hr
            clear hw7
            obtain ⟨hv0, hv1, hv2⟩ := endCells (u := w7) HM7.out.res (.int .i64 0) (.int .i64 0) (.int .i64 0)
            have HBW := Aside0.mk (endBelow HM7.out.below (.int .i64 0) (.int .i64 0) (.int .i64 0))
            have HO := Aside0.mk (out_bad (K := 2) (L := [x, y]) (by rintro s' m' (⟨_, h, _⟩ | ⟨_, x', y', h, h3, h4⟩) <;> first | exact h rfl | (simp at h; obtain ⟨h5, h6⟩ := h; subst h5 h6; exact HN3.out _ h3)))
            go_wp2
            all_goals
              (try simp only [Exit.inBlock, Exit.then])
              refine bodyPost_ret (v := .tuple #[.agg #[.int .i64 0, .int .i64 0, .int .i64 0], .int .i64 8]) ?_ rfl ⟨0, 0, 0, 8, HLE.out ▸ HO.out, rfl, HBW.out⟩
              rw [results_cell_tmp rfl]
              go_simp
          · have HN7 := Lib.hid hno7
            clear hno7
            have hr := endThree HM7.out.res
            have hr0 := hr 0 (by omega)
            have hr1 := hr 1 (by omega)
            have hr2 := hr 2 (by omega)
            have hrf : ∀ i, w7.frozen? ⟨w.heap.size, i, none⟩ = false := fun i => freeOf HM7.out.res i
            clear hr
            clear hw7
            obtain ⟨hv0, hv1, hv2⟩ := endCells (u := w7) HM7.out.res (.int .i64 0) (.int .i64 0) (.int .i64 0)
            have HBW := Aside0.mk (endBelow HM7.out.below (.int .i64 0) (.int .i64 0) (.int .i64 0))
            have HO := Aside0.mk (out_bad (K := 2) (L := [x, y]) (by rintro s' m' (⟨_, h, _⟩ | ⟨_, x', y', h, h3, h4⟩) <;> first | exact h rfl | (simp at h; obtain ⟨h5, h6⟩ := h; subst h5 h6; exact HN3.out _ h3)))
            go_wp2
            all_goals
              (try simp only [Exit.inBlock, Exit.then])
              refine bodyPost_ret (v := .tuple #[.agg #[.int .i64 0, .int .i64 0, .int .i64 0], .int .i64 8]) ?_ rfl ⟨0, 0, 0, 8, HLE.out ▸ HO.out, rfl, HBW.out⟩
              rw [results_cell_tmp rfl]
              go_simp
      · have kb : (K == 2) = false := by rw [beq_eq_false_iff_ne]; exact k2
        have k2' := k2
        obtain ⟨hv0, hv1, hv2⟩ := endCells (u := wc) HM.out.res (.int .i64 0) (.int .i64 0) (.int .i64 0)
        have HBW := Aside0.mk (endBelow HM.out.below (.int .i64 0) (.int .i64 0) (.int .i64 0))
        have HO := Aside0.mk (out_bad (K := K) (L := [x, y]) (by rintro s' m' (⟨_, _, x', h, _⟩ | ⟨h, _⟩) <;> first | exact k2' h | (simp at h)))
        go_wp2
        all_goals
          (try simp only [Exit.inBlock, Exit.then])
          refine bodyPost_ret (v := .tuple #[.agg #[.int .i64 0, .int .i64 0, .int .i64 0], .int .i64 8]) ?_ rfl ⟨0, 0, 0, 8, HLE.out ▸ HO.out, rfl, HBW.out⟩
          rw [results_cell_tmp rfl]
          go_simp
    | x :: y :: z :: L3, HLs, HM, HN, HLE =>
      have h3n : 4 ≤ n := by have := HN.out; simp at this; omega
      have hm1 : ¬ n = 1 := by omega
      have hm2 : ¬ (n - 1) = 1 := by omega
      have hm3 : ((n - 1 : Nat) : Int) ≠ 1 := by omega
      have hm4 : ((n - 1 - 1 : Nat) : Int) ≠ 1 := by omega
      by_cases k2 : K = 2
      · subst k2
        have hl1 := pieceAt HM.out 1 x rfl
        go_wp2_with fail
        refine (numberAny x (HLs.out x (by simp)) wc HM.out.tabs (HE.out.below HM.out.below)).mono ?_
        rintro e w3 ⟨n3, ok3, rfl, hw3, hok3⟩
        have hbw3 := (hw3.block _ (blk_in HB2.out)).trans HB2.out
        have hcw3 : w3.cell? ⟨b, 1, none⟩ = some (.int .i64 0) := by rw [blk_cell hbw3]; rfl
        have hfw3 : w3.frozen? ⟨b, 1, none⟩ = false := freeOf hbw3 1
        have HM4 := Aside0.mk ((HM.out.later hw3).put HT.out b 1 hgb (.int .i64 n3))
        have HB4 : Aside0 ((w3.setCell ⟨b, 1, none⟩ (.int .i64 n3)).heap[b]? = some (.cells #[.int .i64 2, .int .i64 n3, .int .i64 0] 23)) := ⟨by have e := blk_set hbw3 1 (.int .i64 n3); simpa using e⟩
        clear hbw3 hw3
        have hr := endThree HM4.out.res
        have hr0 := hr 0 (by omega)
        have hr1 := hr 1 (by omega)
        have hr2 := hr 2 (by omega)
        have hrf : ∀ i, (w3.setCell ⟨b, 1, none⟩ (.int .i64 n3)).frozen? ⟨w.heap.size, i, none⟩ = false := fun i => freeOf HM4.out.res i
        clear hr
        clear hok3
        obtain ⟨hv0, hv1, hv2⟩ := endCells (u := (w3.setCell ⟨b, 1, none⟩ (.int .i64 n3))) HM4.out.res (.int .i64 0) (.int .i64 0) (.int .i64 0)
        have HBW := Aside0.mk (endBelow HM4.out.below (.int .i64 0) (.int .i64 0) (.int .i64 0))
        have HO := Aside0.mk (out_bad (K := 2) (L := (x :: y :: z :: L3)) (by rintro s' m' (⟨_, _, x', h, _⟩ | ⟨_, x', y', h, _⟩) <;> simp at h))
        go_wp2
        all_goals
          (try simp only [Exit.inBlock, Exit.then])
          refine bodyPost_ret (v := .tuple #[.agg #[.int .i64 0, .int .i64 0, .int .i64 0], .int .i64 8]) ?_ rfl ⟨0, 0, 0, 8, HLE.out ▸ HO.out, rfl, HBW.out⟩
          rw [results_cell_tmp rfl]
          go_simp
      · have kb : (K == 2) = false := by rw [beq_eq_false_iff_ne]; exact k2
        obtain ⟨hv0, hv1, hv2⟩ := endCells (u := wc) HM.out.res (.int .i64 0) (.int .i64 0) (.int .i64 0)
        have HBW := Aside0.mk (endBelow HM.out.below (.int .i64 0) (.int .i64 0) (.int .i64 0))
        have HO := Aside0.mk (out_bad (K := K) (L := (x :: y :: z :: L3)) (by rintro s' m' (⟨_, _, x', h, _⟩ | ⟨_, x', y', h, _⟩) <;> simp at h))
        go_wp2
        all_goals
          (try simp only [Exit.inBlock, Exit.then])
          refine bodyPost_ret (v := .tuple #[.agg #[.int .i64 0, .int .i64 0, .int .i64 0], .int .i64 8]) ?_ rfl ⟨0, 0, 0, 8, HLE.out ▸ HO.out, rfl, HBW.out⟩
          rw [results_cell_tmp rfl]
          go_simp
end Go.Proofs.YtnikkejfpnnmcaaDoor.Pol
