/- Policies as text: PolicyText and the reference's PolicyString. -/
import Derived.Test.YtnikkejfpnnmcaaDoorPol
namespace Go.Proofs.YtnikkejfpnnmcaaDoor.Pol
set_option linter.unusedVariables false
open Go.RowKit Go.Proofs.YtnikkejfpnnmcaaDoorW.PrintWords Go.Proofs.YtnikkejfpnnmcaaDoorW.PrintLast Go.Proofs.YtnikkejfpnnmcaaDoorW.PrintMore Go.Proofs.YtnikkejfpnnmcaaDoor.Policy
set_option linter.unusedSimpArgs false

/-- A policy as text. -/
def polT (j : Nat) (s m : Int) : ByteArray := (if j = 1 then wd j ++ (⟨#[32]⟩ ++ itB s) else wd j) ++ ⟨#[32]⟩ ++ itB m
def polS (k s m : Int) : ByteArray := if fault k s m = 0 then polT (k - 1).toNat s m else ByteArray.empty

theorem boxed {w w1 : World} {a b c : Value} {t : Nat} (h : Below (w.alloc (.cells #[a, b, c] t)).heap.size (w.alloc (.cells #[a, b, c] t)) w1) : w1.cell? ⟨w.heap.size, 0, none⟩ = some a ∧ w1.cell? ⟨w.heap.size, 1, none⟩ = some b ∧ w1.cell? ⟨w.heap.size, 2, none⟩ = some c := by
  have h1 : w1.heap[w.heap.size]? = some (.cells #[a, b, c] t) := (h.block _ (by simp)).trans (blk_new w _)
  exact ⟨by rw [blk_cell h1]; rfl, by rw [blk_cell h1]; rfl, by rw [blk_cell h1]; rfl⟩

set_option maxHeartbeats 2000000 in
set_option maxRecDepth 100000 in
theorem policyText_bad (k s m : Int) (w : World) (hf : fault k s m ≠ 0) :
    Calls Tryd.prog 7 #[.agg #[.int .i64 k, .int .i64 s, .int .i64 m]] w fun e w' => e = .returned (.tuple #[.string ByteArray.empty, .int .i64 (fault k s m)]) ∧ Below w.heap.size w w' := by
  have hne : (fault k s m != 0) = true := bne_iff_ne.2 hf
  go_enter Tryd.func7, Tryd.ntmps7
  go_wp2_with (go_at_call 9; refine (checkPolicy _ _ _ _).mono ?_; rintro e w1 ⟨rfl, h1⟩; have H1 := Aside0.mk h1; clear h1)
  go_ret2
  exact ⟨rfl, below_then (below_alloc (Below.refl _ _) _) (by simp) H1.out⟩
set_option maxHeartbeats 2000000 in
set_option maxRecDepth 100000 in
theorem policyString_bad (k s m : Int) (w : World) (hf : fault k s m ≠ 0) :
    Calls Tryd.prog 8 #[.agg #[.int .i64 k, .int .i64 s, .int .i64 m]] w fun e w' => e = .returned (.tuple #[.string ByteArray.empty, .int .i64 (fault k s m)]) ∧ Below w.heap.size w w' := by
  have hne : (fault k s m != 0) = true := bne_iff_ne.2 hf
  go_enter Tryd.func8, Tryd.ntmps8
  go_wp2_with (go_at_call 10; refine (policyFault _ _ _ _).mono ?_; rintro e w1 ⟨rfl, h1⟩; have H1 := Aside0.mk h1; clear h1)
  go_ret2
  exact ⟨rfl, below_then (below_alloc (Below.refl _ _) _) (by simp) H1.out⟩

theorem num_ok {k : Int} (h1 : 1 ≤ k) (h5 : k ≤ 5) : ∃ j : Nat, (k - 1).toNat = j ∧ ((k = 1 ∧ j = 0) ∨ (k = 2 ∧ j = 1) ∨ (k = 3 ∧ j = 2) ∨ (k = 4 ∧ j = 3) ∨ (k = 5 ∧ j = 4)) := by
  rcases (by omega : k = 1 ∨ k = 2 ∨ k = 3 ∨ k = 4 ∨ k = 5) with rfl | rfl | rfl | rfl | rfl
  · exact ⟨0, by omega, by omega⟩
  · exact ⟨1, by omega, by omega⟩
  · exact ⟨2, by omega, by omega⟩
  · exact ⟨3, by omega, by omega⟩
  · exact ⟨4, by omega, by omega⟩
theorem itB_size (n : Int) (h0 : 0 ≤ n) (h1 : n ≤ 100000) : (itB n).size ≤ 21 := by
  have := Lib.itoa_length_le n (by omega) (by omega)
  simpa [itB, ByteArray.size] using this
theorem wd_size (j : Nat) : (wd j).size ≤ 6 := by
  unfold wd
  by_cases h : j < 5
  · have : j = 0 ∨ j = 1 ∨ j = 2 ∨ j = 3 ∨ j = 4 := by omega
    rcases this with rfl | rfl | rfl | rfl | rfl <;> decide
  · have : wds.getD j [] = [] := by
      rw [List.getD_eq_getElem?_getD, List.getElem?_eq_none (by simp [wds]; omega)]; rfl
    rw [this]; decide
theorem old_block {w : World} {b : Nat} {v : Value} {o : Nat} (h : w.cell? ⟨b, o, none⟩ = some v) : b < w.heap.size := by simpa using World.block_lt_of_cell? w _ h

set_option maxHeartbeats 4000000 in
set_option maxRecDepth 100000 in
theorem policyText_ok (k : Int) (j : Nat) (hk : (k = 1 ∧ j = 0) ∨ (k = 2 ∧ j = 1) ∨ (k = 3 ∧ j = 2) ∨ (k = 4 ∧ j = 3) ∨ (k = 5 ∧ j = 4)) (s m : Int) (w : World) (hf : fault k s m = 0) (hT : Tabs w) :
    Calls Tryd.prog 7 #[.agg #[.int .i64 k, .int .i64 s, .int .i64 m]] w fun e w' => e = .returned (.tuple #[.string (polT j s m), .int .i64 0]) ∧ Below w.heap.size w w' := by
  obtain ⟨_, _, hs2, hs0, hm0, hm1⟩ := fault_right hf
  have HF := Lib.hid hf
  have HT := Aside0.mk hT
  have HS : Hid (j = 1 → 0 ≤ s ∧ s ≤ 100000) := Lib.hid (fun h => by have := hs2 (by omega); omega)
  have HM : Hid (0 ≤ m ∧ m ≤ 100000) := Lib.hid ⟨hm0, hm1⟩
  clear hf hT hs2 hs0 hm0 hm1
  rcases hk with ⟨rfl, rfl⟩ | ⟨rfl, rfl⟩ | ⟨rfl, rfl⟩ | ⟨rfl, rfl⟩ | ⟨rfl, rfl⟩
  · have hbm := itB_size m HM.out.1 HM.out.2
    have hbw := wd_size 0
    go_enter Tryd.func7, Tryd.ntmps7
    go_wp2_with fail
    refine (checkPolicy _ _ _ _).mono ?_
    rintro e w1 ⟨rfl, h1⟩
    rw [HF.out]
    obtain ⟨hx0, hx1, hx2⟩ := boxed h1
    have H1 := Aside0.mk (below_then (below_alloc (Below.refl _ _) _) (by simp) h1)
    clear h1
    go_wp2_with fail
    have HT1 := Aside0.mk (HT.out.below H1.out)
    have HL1 := Lib.hid (old_block hx0)
    have hcell : ((w1.alloc (.cells (wds.map fun l => Value.string ⟨l.toArray⟩).toArray 9)).drew).cell? ⟨w1.heap.size, 0, none⟩ = some (.string (wd 0))   := by rw [blk_cell (show ((w1.alloc (.cells (wds.map fun l => Value.string ⟨l.toArray⟩).toArray 9)).drew).heap[w1.heap.size]? = some (.cells (wds.map fun l => Value.string ⟨l.toArray⟩).toArray 9) from blk_new w1 _)]; exact wd_get 0 (by omega)
    have hx9 : ((w1.alloc (.cells (wds.map fun l => Value.string ⟨l.toArray⟩).toArray 9)).drew).cell? ⟨w.heap.size, 0, none⟩ = some (.int .i64 1) := (Below.cell (below_drew (below_alloc (Below.refl w1.heap.size w1) _)) (p := ⟨w.heap.size, 0, none⟩) HL1.out).trans hx0
    have hwj : IntKind.i64.wrap (0 : Int) = 0 := IntWalk.i64_in _ (by omega)
    go_cut [5] (fun z9 wx => z9 = .string (wd 0) ∧ Aside0 (wx = (w1.alloc (.cells (wds.map fun l => Value.string ⟨l.toArray⟩).toArray 9)).drew))
    case first =>
      refine wp_region_held_drew (S := fun w' => w'.cell? ⟨w.heap.size, 0, none⟩ = some (.int .i64 1)) (by kernel_rfl) hx0 (fun hHeld => ?_)
      refine wpAnyH_take (i := 1) (oi := ⟨some 12, _, _, _, _, _⟩) (v := ?_) rfl (by kernel_rfl) (by kernel_rfl) (by kernel_rfl) (fun _ _ _ h => h) (Or.inl ⟨rfl, ?_⟩) (by assumption) ?_
      rotate_left
      · (intro w hSw; (try dsimp only at hSw); go_simp; try with_reducible rfl)
      try simp only [Act.put, List.setIfInBounds_toArray, List.set_cons_zero, List.set_cons_succ]
      refine wpAnyH_take (i := 2) (oi := ⟨some 13, _, _, _, _, _⟩) (v := ?_) rfl (by kernel_rfl) (by kernel_rfl) (by kernel_rfl) (fun _ _ _ h => h) (Or.inl ⟨rfl, ?_⟩) (by assumption) ?_
      rotate_left
      · (intro w hSw; (try dsimp only at hSw); go_simp; try with_reducible rfl)
      try simp only [Act.put, List.setIfInBounds_toArray, List.set_cons_zero, List.set_cons_succ]
      refine wpAnyH_take (i := 3) (oi := ⟨some 14, _, _, _, _, _⟩) (v := ?_) rfl (by kernel_rfl) (by kernel_rfl) (by kernel_rfl) (fun _ _ _ h => h) (Or.inl ⟨rfl, ?_⟩) (by assumption) ?_
      rotate_left
      · (intro w hSw; (try dsimp only at hSw); go_simp; try with_reducible rfl)
      try simp only [Act.put, List.setIfInBounds_toArray, List.set_cons_zero, List.set_cons_succ]
      refine wpAnyH_ready (rs := [0]) (by kernel_rfl) (by simp) (AllReadyH.cons (o := ⟨some 11, _, _, _, _, _⟩) rfl (fun K hK => ?_) AllReadyH.nil)
      (go_simp; go_at_call 19; refine (fieldsW _ (HT1.out.below (below_drew (Below.refl _ _)))).mono ?_; rintro e w' ⟨rfl, rfl⟩; go_wp2_with fail)
      refine hK.out _ _ hx9 (fun hHeld0 => ?_)
      clear hK K
      try simp only [Act.put, List.setIfInBounds_toArray, List.set_cons_zero, List.set_cons_succ]
      refine wpAnyH_take (i := 4) (oi := ⟨some 15, _, _, _, _, _⟩) (v := ?_) rfl (by kernel_rfl) (by kernel_rfl) (by kernel_rfl) (fun _ _ _ h => h) (Or.inl ⟨rfl, ?_⟩) (by assumption) ?_
      rotate_left
      · (intro w hSw; (try dsimp only at hSw); go_simp; try with_reducible rfl)
      try simp only [Act.put, List.setIfInBounds_toArray, List.set_cons_zero, List.set_cons_succ]
      refine wpAnyH_ready (rs := [5]) (by kernel_rfl) (by simp) (AllReadyH.cons (o := ⟨some 16, _, _, _, _, _⟩) rfl (fun K hK => ?_) AllReadyH.nil)
      go_simp
      refine hK.out _ _ hx9 (fun hHeld5 => ?_)
      clear hK K
      try simp only [Act.put, List.setIfInBounds_toArray, List.set_cons_zero, List.set_cons_succ]
      refine wpAnyH_take (i := 6) (oi := ⟨some 5, _, _, _, _, _⟩) (v := ?_) rfl (by kernel_rfl) (by kernel_rfl) (by kernel_rfl) (fun _ _ _ h => h) (Or.inl ⟨rfl, ?_⟩) (by assumption) ?_
      rotate_left
      · (intro w hSw; (try dsimp only at hSw); go_simp; try with_reducible rfl)
      try simp only [Act.put, List.setIfInBounds_toArray, List.set_cons_zero, List.set_cons_succ]
      refine wpAnyH_done (by kernel_rfl) ?_ _
      go_wp2_with fail
      go_meet
      exact ⟨rfl, ⟨rfl⟩⟩
    case rest =>
      obtain ⟨rfl, hwc⟩ := hcut
      have hb2 : Below w1.heap.size w1 wc := by rw [hwc.out]; exact below_drew (below_alloc (Below.refl _ _) _)
      have HT2 := Aside0.mk (HT1.out.below hb2)
      have H2 := Aside0.mk (below_then H1.out H1.out.size hb2)
      have hz0 := (hb2.cell (p := ⟨w.heap.size, 0, none⟩) HL1.out).trans hx0
      have hz1 := (hb2.cell (p := ⟨w.heap.size, 1, none⟩) HL1.out).trans hx1
      have hz2 := (hb2.cell (p := ⟨w.heap.size, 2, none⟩) HL1.out).trans hx2
      have HL2 := Lib.hid (old_block hz0)
      clear hb2 hwc hcell hx0 hx1 hx2 hx9
      go_wp2_with fail
      refine (itoa m HM.out.1 HM.out.2 _ HT2.out).mono ?_
      rintro e w4 ⟨rfl, h4⟩
      have H4 := Aside0.mk (below_then H2.out H2.out.size h4)
      clear h4
      go_wp2_with fail
      go_ret2
      exact ⟨by simp [polT], H4.out⟩
  · have HS2 := Aside0.mk (HS.out rfl)
    have hbs := itB_size s HS2.out.1 HS2.out.2
    have hbm := itB_size m HM.out.1 HM.out.2
    have hbw := wd_size 1
    go_enter Tryd.func7, Tryd.ntmps7
    go_wp2_with fail
    refine (checkPolicy _ _ _ _).mono ?_
    rintro e w1 ⟨rfl, h1⟩
    rw [HF.out]
    obtain ⟨hx0, hx1, hx2⟩ := boxed h1
    have H1 := Aside0.mk (below_then (below_alloc (Below.refl _ _) _) (by simp) h1)
    clear h1
    go_wp2_with fail
    have HT1 := Aside0.mk (HT.out.below H1.out)
    have HL1 := Lib.hid (old_block hx0)
    have hcell : ((w1.alloc (.cells (wds.map fun l => Value.string ⟨l.toArray⟩).toArray 9)).drew).cell? ⟨w1.heap.size, 1, none⟩ = some (.string (wd 1))   := by rw [blk_cell (show ((w1.alloc (.cells (wds.map fun l => Value.string ⟨l.toArray⟩).toArray 9)).drew).heap[w1.heap.size]? = some (.cells (wds.map fun l => Value.string ⟨l.toArray⟩).toArray 9) from blk_new w1 _)]; exact wd_get 1 (by omega)
    have hx9 : ((w1.alloc (.cells (wds.map fun l => Value.string ⟨l.toArray⟩).toArray 9)).drew).cell? ⟨w.heap.size, 0, none⟩ = some (.int .i64 2) := (Below.cell (below_drew (below_alloc (Below.refl w1.heap.size w1) _)) (p := ⟨w.heap.size, 0, none⟩) HL1.out).trans hx0
    have hwj : IntKind.i64.wrap (1 : Int) = 1 := IntWalk.i64_in _ (by omega)
    go_cut [5] (fun z9 wx => z9 = .string (wd 1) ∧ Aside0 (wx = (w1.alloc (.cells (wds.map fun l => Value.string ⟨l.toArray⟩).toArray 9)).drew))
    case first =>
      refine wp_region_held_drew (S := fun w' => w'.cell? ⟨w.heap.size, 0, none⟩ = some (.int .i64 2)) (by kernel_rfl) hx0 (fun hHeld => ?_)
      refine wpAnyH_take (i := 1) (oi := ⟨some 12, _, _, _, _, _⟩) (v := ?_) rfl (by kernel_rfl) (by kernel_rfl) (by kernel_rfl) (fun _ _ _ h => h) (Or.inl ⟨rfl, ?_⟩) (by assumption) ?_
      rotate_left
      · (intro w hSw; (try dsimp only at hSw); go_simp; try with_reducible rfl)
      try simp only [Act.put, List.setIfInBounds_toArray, List.set_cons_zero, List.set_cons_succ]
      refine wpAnyH_take (i := 2) (oi := ⟨some 13, _, _, _, _, _⟩) (v := ?_) rfl (by kernel_rfl) (by kernel_rfl) (by kernel_rfl) (fun _ _ _ h => h) (Or.inl ⟨rfl, ?_⟩) (by assumption) ?_
      rotate_left
      · (intro w hSw; (try dsimp only at hSw); go_simp; try with_reducible rfl)
      try simp only [Act.put, List.setIfInBounds_toArray, List.set_cons_zero, List.set_cons_succ]
      refine wpAnyH_take (i := 3) (oi := ⟨some 14, _, _, _, _, _⟩) (v := ?_) rfl (by kernel_rfl) (by kernel_rfl) (by kernel_rfl) (fun _ _ _ h => h) (Or.inl ⟨rfl, ?_⟩) (by assumption) ?_
      rotate_left
      · (intro w hSw; (try dsimp only at hSw); go_simp; try with_reducible rfl)
      try simp only [Act.put, List.setIfInBounds_toArray, List.set_cons_zero, List.set_cons_succ]
      refine wpAnyH_ready (rs := [0]) (by kernel_rfl) (by simp) (AllReadyH.cons (o := ⟨some 11, _, _, _, _, _⟩) rfl (fun K hK => ?_) AllReadyH.nil)
      (go_simp; go_at_call 19; refine (fieldsW _ (HT1.out.below (below_drew (Below.refl _ _)))).mono ?_; rintro e w' ⟨rfl, rfl⟩; go_wp2_with fail)
      refine hK.out _ _ hx9 (fun hHeld0 => ?_)
      clear hK K
      try simp only [Act.put, List.setIfInBounds_toArray, List.set_cons_zero, List.set_cons_succ]
      refine wpAnyH_take (i := 4) (oi := ⟨some 15, _, _, _, _, _⟩) (v := ?_) rfl (by kernel_rfl) (by kernel_rfl) (by kernel_rfl) (fun _ _ _ h => h) (Or.inl ⟨rfl, ?_⟩) (by assumption) ?_
      rotate_left
      · (intro w hSw; (try dsimp only at hSw); go_simp; try with_reducible rfl)
      try simp only [Act.put, List.setIfInBounds_toArray, List.set_cons_zero, List.set_cons_succ]
      refine wpAnyH_ready (rs := [5]) (by kernel_rfl) (by simp) (AllReadyH.cons (o := ⟨some 16, _, _, _, _, _⟩) rfl (fun K hK => ?_) AllReadyH.nil)
      go_simp
      refine hK.out _ _ hx9 (fun hHeld5 => ?_)
      clear hK K
      try simp only [Act.put, List.setIfInBounds_toArray, List.set_cons_zero, List.set_cons_succ]
      refine wpAnyH_take (i := 6) (oi := ⟨some 5, _, _, _, _, _⟩) (v := ?_) rfl (by kernel_rfl) (by kernel_rfl) (by kernel_rfl) (fun _ _ _ h => h) (Or.inl ⟨rfl, ?_⟩) (by assumption) ?_
      rotate_left
      · (intro w hSw; (try dsimp only at hSw); go_simp; try with_reducible rfl)
      try simp only [Act.put, List.setIfInBounds_toArray, List.set_cons_zero, List.set_cons_succ]
      refine wpAnyH_done (by kernel_rfl) ?_ _
      go_wp2_with fail
      go_meet
      exact ⟨rfl, ⟨rfl⟩⟩
    case rest =>
      obtain ⟨rfl, hwc⟩ := hcut
      have hb2 : Below w1.heap.size w1 wc := by rw [hwc.out]; exact below_drew (below_alloc (Below.refl _ _) _)
      have HT2 := Aside0.mk (HT1.out.below hb2)
      have H2 := Aside0.mk (below_then H1.out H1.out.size hb2)
      have hz0 := (hb2.cell (p := ⟨w.heap.size, 0, none⟩) HL1.out).trans hx0
      have hz1 := (hb2.cell (p := ⟨w.heap.size, 1, none⟩) HL1.out).trans hx1
      have hz2 := (hb2.cell (p := ⟨w.heap.size, 2, none⟩) HL1.out).trans hx2
      have HL2 := Lib.hid (old_block hz0)
      clear hb2 hwc hcell hx0 hx1 hx2 hx9
      go_wp2_with fail
      refine (itoa s HS2.out.1 HS2.out.2 _ HT2.out).mono ?_
      rintro e w3 ⟨rfl, h3⟩
      have hy0 := (h3.cell (p := ⟨w.heap.size, 0, none⟩) HL2.out).trans hz0
      have hy1 := (h3.cell (p := ⟨w.heap.size, 1, none⟩) HL2.out).trans hz1
      have hy2 := (h3.cell (p := ⟨w.heap.size, 2, none⟩) HL2.out).trans hz2
      have HT3 := Aside0.mk (HT2.out.below h3)
      have H3 := Aside0.mk (below_then H2.out H2.out.size h3)
      clear h3 hz0 hz1 hz2
      go_wp2_with fail
      refine (itoa m HM.out.1 HM.out.2 _ HT3.out).mono ?_
      rintro e w4 ⟨rfl, h4⟩
      have H4 := Aside0.mk (below_then H3.out H3.out.size h4)
      clear h4
      go_wp2_with fail
      go_ret2
      exact ⟨by simp [polT], H4.out⟩
  · have hbm := itB_size m HM.out.1 HM.out.2
    have hbw := wd_size 2
    go_enter Tryd.func7, Tryd.ntmps7
    go_wp2_with fail
    refine (checkPolicy _ _ _ _).mono ?_
    rintro e w1 ⟨rfl, h1⟩
    rw [HF.out]
    obtain ⟨hx0, hx1, hx2⟩ := boxed h1
    have H1 := Aside0.mk (below_then (below_alloc (Below.refl _ _) _) (by simp) h1)
    clear h1
    go_wp2_with fail
    have HT1 := Aside0.mk (HT.out.below H1.out)
    have HL1 := Lib.hid (old_block hx0)
    have hcell : ((w1.alloc (.cells (wds.map fun l => Value.string ⟨l.toArray⟩).toArray 9)).drew).cell? ⟨w1.heap.size, 2, none⟩ = some (.string (wd 2))   := by rw [blk_cell (show ((w1.alloc (.cells (wds.map fun l => Value.string ⟨l.toArray⟩).toArray 9)).drew).heap[w1.heap.size]? = some (.cells (wds.map fun l => Value.string ⟨l.toArray⟩).toArray 9) from blk_new w1 _)]; exact wd_get 2 (by omega)
    have hx9 : ((w1.alloc (.cells (wds.map fun l => Value.string ⟨l.toArray⟩).toArray 9)).drew).cell? ⟨w.heap.size, 0, none⟩ = some (.int .i64 3) := (Below.cell (below_drew (below_alloc (Below.refl w1.heap.size w1) _)) (p := ⟨w.heap.size, 0, none⟩) HL1.out).trans hx0
    have hwj : IntKind.i64.wrap (2 : Int) = 2 := IntWalk.i64_in _ (by omega)
    go_cut [5] (fun z9 wx => z9 = .string (wd 2) ∧ Aside0 (wx = (w1.alloc (.cells (wds.map fun l => Value.string ⟨l.toArray⟩).toArray 9)).drew))
    case first =>
      refine wp_region_held_drew (S := fun w' => w'.cell? ⟨w.heap.size, 0, none⟩ = some (.int .i64 3)) (by kernel_rfl) hx0 (fun hHeld => ?_)
      refine wpAnyH_take (i := 1) (oi := ⟨some 12, _, _, _, _, _⟩) (v := ?_) rfl (by kernel_rfl) (by kernel_rfl) (by kernel_rfl) (fun _ _ _ h => h) (Or.inl ⟨rfl, ?_⟩) (by assumption) ?_
      rotate_left
      · (intro w hSw; (try dsimp only at hSw); go_simp; try with_reducible rfl)
      try simp only [Act.put, List.setIfInBounds_toArray, List.set_cons_zero, List.set_cons_succ]
      refine wpAnyH_take (i := 2) (oi := ⟨some 13, _, _, _, _, _⟩) (v := ?_) rfl (by kernel_rfl) (by kernel_rfl) (by kernel_rfl) (fun _ _ _ h => h) (Or.inl ⟨rfl, ?_⟩) (by assumption) ?_
      rotate_left
      · (intro w hSw; (try dsimp only at hSw); go_simp; try with_reducible rfl)
      try simp only [Act.put, List.setIfInBounds_toArray, List.set_cons_zero, List.set_cons_succ]
      refine wpAnyH_take (i := 3) (oi := ⟨some 14, _, _, _, _, _⟩) (v := ?_) rfl (by kernel_rfl) (by kernel_rfl) (by kernel_rfl) (fun _ _ _ h => h) (Or.inl ⟨rfl, ?_⟩) (by assumption) ?_
      rotate_left
      · (intro w hSw; (try dsimp only at hSw); go_simp; try with_reducible rfl)
      try simp only [Act.put, List.setIfInBounds_toArray, List.set_cons_zero, List.set_cons_succ]
      refine wpAnyH_ready (rs := [0]) (by kernel_rfl) (by simp) (AllReadyH.cons (o := ⟨some 11, _, _, _, _, _⟩) rfl (fun K hK => ?_) AllReadyH.nil)
      (go_simp; go_at_call 19; refine (fieldsW _ (HT1.out.below (below_drew (Below.refl _ _)))).mono ?_; rintro e w' ⟨rfl, rfl⟩; go_wp2_with fail)
      refine hK.out _ _ hx9 (fun hHeld0 => ?_)
      clear hK K
      try simp only [Act.put, List.setIfInBounds_toArray, List.set_cons_zero, List.set_cons_succ]
      refine wpAnyH_take (i := 4) (oi := ⟨some 15, _, _, _, _, _⟩) (v := ?_) rfl (by kernel_rfl) (by kernel_rfl) (by kernel_rfl) (fun _ _ _ h => h) (Or.inl ⟨rfl, ?_⟩) (by assumption) ?_
      rotate_left
      · (intro w hSw; (try dsimp only at hSw); go_simp; try with_reducible rfl)
      try simp only [Act.put, List.setIfInBounds_toArray, List.set_cons_zero, List.set_cons_succ]
      refine wpAnyH_ready (rs := [5]) (by kernel_rfl) (by simp) (AllReadyH.cons (o := ⟨some 16, _, _, _, _, _⟩) rfl (fun K hK => ?_) AllReadyH.nil)
      go_simp
      refine hK.out _ _ hx9 (fun hHeld5 => ?_)
      clear hK K
      try simp only [Act.put, List.setIfInBounds_toArray, List.set_cons_zero, List.set_cons_succ]
      refine wpAnyH_take (i := 6) (oi := ⟨some 5, _, _, _, _, _⟩) (v := ?_) rfl (by kernel_rfl) (by kernel_rfl) (by kernel_rfl) (fun _ _ _ h => h) (Or.inl ⟨rfl, ?_⟩) (by assumption) ?_
      rotate_left
      · (intro w hSw; (try dsimp only at hSw); go_simp; try with_reducible rfl)
      try simp only [Act.put, List.setIfInBounds_toArray, List.set_cons_zero, List.set_cons_succ]
      refine wpAnyH_done (by kernel_rfl) ?_ _
      go_wp2_with fail
      go_meet
      exact ⟨rfl, ⟨rfl⟩⟩
    case rest =>
      obtain ⟨rfl, hwc⟩ := hcut
      have hb2 : Below w1.heap.size w1 wc := by rw [hwc.out]; exact below_drew (below_alloc (Below.refl _ _) _)
      have HT2 := Aside0.mk (HT1.out.below hb2)
      have H2 := Aside0.mk (below_then H1.out H1.out.size hb2)
      have hz0 := (hb2.cell (p := ⟨w.heap.size, 0, none⟩) HL1.out).trans hx0
      have hz1 := (hb2.cell (p := ⟨w.heap.size, 1, none⟩) HL1.out).trans hx1
      have hz2 := (hb2.cell (p := ⟨w.heap.size, 2, none⟩) HL1.out).trans hx2
      have HL2 := Lib.hid (old_block hz0)
      clear hb2 hwc hcell hx0 hx1 hx2 hx9
      go_wp2_with fail
      refine (itoa m HM.out.1 HM.out.2 _ HT2.out).mono ?_
      rintro e w4 ⟨rfl, h4⟩
      have H4 := Aside0.mk (below_then H2.out H2.out.size h4)
      clear h4
      go_wp2_with fail
      go_ret2
      exact ⟨by simp [polT], H4.out⟩
  · have hbm := itB_size m HM.out.1 HM.out.2
    have hbw := wd_size 3
    go_enter Tryd.func7, Tryd.ntmps7
    go_wp2_with fail
    refine (checkPolicy _ _ _ _).mono ?_
    rintro e w1 ⟨rfl, h1⟩
    rw [HF.out]
    obtain ⟨hx0, hx1, hx2⟩ := boxed h1
    have H1 := Aside0.mk (below_then (below_alloc (Below.refl _ _) _) (by simp) h1)
    clear h1
    go_wp2_with fail
    have HT1 := Aside0.mk (HT.out.below H1.out)
    have HL1 := Lib.hid (old_block hx0)
    have hcell : ((w1.alloc (.cells (wds.map fun l => Value.string ⟨l.toArray⟩).toArray 9)).drew).cell? ⟨w1.heap.size, 3, none⟩ = some (.string (wd 3))   := by rw [blk_cell (show ((w1.alloc (.cells (wds.map fun l => Value.string ⟨l.toArray⟩).toArray 9)).drew).heap[w1.heap.size]? = some (.cells (wds.map fun l => Value.string ⟨l.toArray⟩).toArray 9) from blk_new w1 _)]; exact wd_get 3 (by omega)
    have hx9 : ((w1.alloc (.cells (wds.map fun l => Value.string ⟨l.toArray⟩).toArray 9)).drew).cell? ⟨w.heap.size, 0, none⟩ = some (.int .i64 4) := (Below.cell (below_drew (below_alloc (Below.refl w1.heap.size w1) _)) (p := ⟨w.heap.size, 0, none⟩) HL1.out).trans hx0
    have hwj : IntKind.i64.wrap (3 : Int) = 3 := IntWalk.i64_in _ (by omega)
    go_cut [5] (fun z9 wx => z9 = .string (wd 3) ∧ Aside0 (wx = (w1.alloc (.cells (wds.map fun l => Value.string ⟨l.toArray⟩).toArray 9)).drew))
    case first =>
      refine wp_region_held_drew (S := fun w' => w'.cell? ⟨w.heap.size, 0, none⟩ = some (.int .i64 4)) (by kernel_rfl) hx0 (fun hHeld => ?_)
      refine wpAnyH_take (i := 1) (oi := ⟨some 12, _, _, _, _, _⟩) (v := ?_) rfl (by kernel_rfl) (by kernel_rfl) (by kernel_rfl) (fun _ _ _ h => h) (Or.inl ⟨rfl, ?_⟩) (by assumption) ?_
      rotate_left
      · (intro w hSw; (try dsimp only at hSw); go_simp; try with_reducible rfl)
      try simp only [Act.put, List.setIfInBounds_toArray, List.set_cons_zero, List.set_cons_succ]
      refine wpAnyH_take (i := 2) (oi := ⟨some 13, _, _, _, _, _⟩) (v := ?_) rfl (by kernel_rfl) (by kernel_rfl) (by kernel_rfl) (fun _ _ _ h => h) (Or.inl ⟨rfl, ?_⟩) (by assumption) ?_
      rotate_left
      · (intro w hSw; (try dsimp only at hSw); go_simp; try with_reducible rfl)
      try simp only [Act.put, List.setIfInBounds_toArray, List.set_cons_zero, List.set_cons_succ]
      refine wpAnyH_take (i := 3) (oi := ⟨some 14, _, _, _, _, _⟩) (v := ?_) rfl (by kernel_rfl) (by kernel_rfl) (by kernel_rfl) (fun _ _ _ h => h) (Or.inl ⟨rfl, ?_⟩) (by assumption) ?_
      rotate_left
      · (intro w hSw; (try dsimp only at hSw); go_simp; try with_reducible rfl)
      try simp only [Act.put, List.setIfInBounds_toArray, List.set_cons_zero, List.set_cons_succ]
      refine wpAnyH_ready (rs := [0]) (by kernel_rfl) (by simp) (AllReadyH.cons (o := ⟨some 11, _, _, _, _, _⟩) rfl (fun K hK => ?_) AllReadyH.nil)
      (go_simp; go_at_call 19; refine (fieldsW _ (HT1.out.below (below_drew (Below.refl _ _)))).mono ?_; rintro e w' ⟨rfl, rfl⟩; go_wp2_with fail)
      refine hK.out _ _ hx9 (fun hHeld0 => ?_)
      clear hK K
      try simp only [Act.put, List.setIfInBounds_toArray, List.set_cons_zero, List.set_cons_succ]
      refine wpAnyH_take (i := 4) (oi := ⟨some 15, _, _, _, _, _⟩) (v := ?_) rfl (by kernel_rfl) (by kernel_rfl) (by kernel_rfl) (fun _ _ _ h => h) (Or.inl ⟨rfl, ?_⟩) (by assumption) ?_
      rotate_left
      · (intro w hSw; (try dsimp only at hSw); go_simp; try with_reducible rfl)
      try simp only [Act.put, List.setIfInBounds_toArray, List.set_cons_zero, List.set_cons_succ]
      refine wpAnyH_ready (rs := [5]) (by kernel_rfl) (by simp) (AllReadyH.cons (o := ⟨some 16, _, _, _, _, _⟩) rfl (fun K hK => ?_) AllReadyH.nil)
      go_simp
      refine hK.out _ _ hx9 (fun hHeld5 => ?_)
      clear hK K
      try simp only [Act.put, List.setIfInBounds_toArray, List.set_cons_zero, List.set_cons_succ]
      refine wpAnyH_take (i := 6) (oi := ⟨some 5, _, _, _, _, _⟩) (v := ?_) rfl (by kernel_rfl) (by kernel_rfl) (by kernel_rfl) (fun _ _ _ h => h) (Or.inl ⟨rfl, ?_⟩) (by assumption) ?_
      rotate_left
      · (intro w hSw; (try dsimp only at hSw); go_simp; try with_reducible rfl)
      try simp only [Act.put, List.setIfInBounds_toArray, List.set_cons_zero, List.set_cons_succ]
      refine wpAnyH_done (by kernel_rfl) ?_ _
      go_wp2_with fail
      go_meet
      exact ⟨rfl, ⟨rfl⟩⟩
    case rest =>
      obtain ⟨rfl, hwc⟩ := hcut
      have hb2 : Below w1.heap.size w1 wc := by rw [hwc.out]; exact below_drew (below_alloc (Below.refl _ _) _)
      have HT2 := Aside0.mk (HT1.out.below hb2)
      have H2 := Aside0.mk (below_then H1.out H1.out.size hb2)
      have hz0 := (hb2.cell (p := ⟨w.heap.size, 0, none⟩) HL1.out).trans hx0
      have hz1 := (hb2.cell (p := ⟨w.heap.size, 1, none⟩) HL1.out).trans hx1
      have hz2 := (hb2.cell (p := ⟨w.heap.size, 2, none⟩) HL1.out).trans hx2
      have HL2 := Lib.hid (old_block hz0)
      clear hb2 hwc hcell hx0 hx1 hx2 hx9
      go_wp2_with fail
      refine (itoa m HM.out.1 HM.out.2 _ HT2.out).mono ?_
      rintro e w4 ⟨rfl, h4⟩
      have H4 := Aside0.mk (below_then H2.out H2.out.size h4)
      clear h4
      go_wp2_with fail
      go_ret2
      exact ⟨by simp [polT], H4.out⟩
  · have hbm := itB_size m HM.out.1 HM.out.2
    have hbw := wd_size 4
    go_enter Tryd.func7, Tryd.ntmps7
    go_wp2_with fail
    refine (checkPolicy _ _ _ _).mono ?_
    rintro e w1 ⟨rfl, h1⟩
    rw [HF.out]
    obtain ⟨hx0, hx1, hx2⟩ := boxed h1
    have H1 := Aside0.mk (below_then (below_alloc (Below.refl _ _) _) (by simp) h1)
    clear h1
    go_wp2_with fail
    have HT1 := Aside0.mk (HT.out.below H1.out)
    have HL1 := Lib.hid (old_block hx0)
    have hcell : ((w1.alloc (.cells (wds.map fun l => Value.string ⟨l.toArray⟩).toArray 9)).drew).cell? ⟨w1.heap.size, 4, none⟩ = some (.string (wd 4))   := by rw [blk_cell (show ((w1.alloc (.cells (wds.map fun l => Value.string ⟨l.toArray⟩).toArray 9)).drew).heap[w1.heap.size]? = some (.cells (wds.map fun l => Value.string ⟨l.toArray⟩).toArray 9) from blk_new w1 _)]; exact wd_get 4 (by omega)
    have hx9 : ((w1.alloc (.cells (wds.map fun l => Value.string ⟨l.toArray⟩).toArray 9)).drew).cell? ⟨w.heap.size, 0, none⟩ = some (.int .i64 5) := (Below.cell (below_drew (below_alloc (Below.refl w1.heap.size w1) _)) (p := ⟨w.heap.size, 0, none⟩) HL1.out).trans hx0
    have hwj : IntKind.i64.wrap (4 : Int) = 4 := IntWalk.i64_in _ (by omega)
    go_cut [5] (fun z9 wx => z9 = .string (wd 4) ∧ Aside0 (wx = (w1.alloc (.cells (wds.map fun l => Value.string ⟨l.toArray⟩).toArray 9)).drew))
    case first =>
      refine wp_region_held_drew (S := fun w' => w'.cell? ⟨w.heap.size, 0, none⟩ = some (.int .i64 5)) (by kernel_rfl) hx0 (fun hHeld => ?_)
      refine wpAnyH_take (i := 1) (oi := ⟨some 12, _, _, _, _, _⟩) (v := ?_) rfl (by kernel_rfl) (by kernel_rfl) (by kernel_rfl) (fun _ _ _ h => h) (Or.inl ⟨rfl, ?_⟩) (by assumption) ?_
      rotate_left
      · (intro w hSw; (try dsimp only at hSw); go_simp; try with_reducible rfl)
      try simp only [Act.put, List.setIfInBounds_toArray, List.set_cons_zero, List.set_cons_succ]
      refine wpAnyH_take (i := 2) (oi := ⟨some 13, _, _, _, _, _⟩) (v := ?_) rfl (by kernel_rfl) (by kernel_rfl) (by kernel_rfl) (fun _ _ _ h => h) (Or.inl ⟨rfl, ?_⟩) (by assumption) ?_
      rotate_left
      · (intro w hSw; (try dsimp only at hSw); go_simp; try with_reducible rfl)
      try simp only [Act.put, List.setIfInBounds_toArray, List.set_cons_zero, List.set_cons_succ]
      refine wpAnyH_take (i := 3) (oi := ⟨some 14, _, _, _, _, _⟩) (v := ?_) rfl (by kernel_rfl) (by kernel_rfl) (by kernel_rfl) (fun _ _ _ h => h) (Or.inl ⟨rfl, ?_⟩) (by assumption) ?_
      rotate_left
      · (intro w hSw; (try dsimp only at hSw); go_simp; try with_reducible rfl)
      try simp only [Act.put, List.setIfInBounds_toArray, List.set_cons_zero, List.set_cons_succ]
      refine wpAnyH_ready (rs := [0]) (by kernel_rfl) (by simp) (AllReadyH.cons (o := ⟨some 11, _, _, _, _, _⟩) rfl (fun K hK => ?_) AllReadyH.nil)
      (go_simp; go_at_call 19; refine (fieldsW _ (HT1.out.below (below_drew (Below.refl _ _)))).mono ?_; rintro e w' ⟨rfl, rfl⟩; go_wp2_with fail)
      refine hK.out _ _ hx9 (fun hHeld0 => ?_)
      clear hK K
      try simp only [Act.put, List.setIfInBounds_toArray, List.set_cons_zero, List.set_cons_succ]
      refine wpAnyH_take (i := 4) (oi := ⟨some 15, _, _, _, _, _⟩) (v := ?_) rfl (by kernel_rfl) (by kernel_rfl) (by kernel_rfl) (fun _ _ _ h => h) (Or.inl ⟨rfl, ?_⟩) (by assumption) ?_
      rotate_left
      · (intro w hSw; (try dsimp only at hSw); go_simp; try with_reducible rfl)
      try simp only [Act.put, List.setIfInBounds_toArray, List.set_cons_zero, List.set_cons_succ]
      refine wpAnyH_ready (rs := [5]) (by kernel_rfl) (by simp) (AllReadyH.cons (o := ⟨some 16, _, _, _, _, _⟩) rfl (fun K hK => ?_) AllReadyH.nil)
      go_simp
      refine hK.out _ _ hx9 (fun hHeld5 => ?_)
      clear hK K
      try simp only [Act.put, List.setIfInBounds_toArray, List.set_cons_zero, List.set_cons_succ]
      refine wpAnyH_take (i := 6) (oi := ⟨some 5, _, _, _, _, _⟩) (v := ?_) rfl (by kernel_rfl) (by kernel_rfl) (by kernel_rfl) (fun _ _ _ h => h) (Or.inl ⟨rfl, ?_⟩) (by assumption) ?_
      rotate_left
      · (intro w hSw; (try dsimp only at hSw); go_simp; try with_reducible rfl)
      try simp only [Act.put, List.setIfInBounds_toArray, List.set_cons_zero, List.set_cons_succ]
      refine wpAnyH_done (by kernel_rfl) ?_ _
      go_wp2_with fail
      go_meet
      exact ⟨rfl, ⟨rfl⟩⟩
    case rest =>
      obtain ⟨rfl, hwc⟩ := hcut
      have hb2 : Below w1.heap.size w1 wc := by rw [hwc.out]; exact below_drew (below_alloc (Below.refl _ _) _)
      have HT2 := Aside0.mk (HT1.out.below hb2)
      have H2 := Aside0.mk (below_then H1.out H1.out.size hb2)
      have hz0 := (hb2.cell (p := ⟨w.heap.size, 0, none⟩) HL1.out).trans hx0
      have hz1 := (hb2.cell (p := ⟨w.heap.size, 1, none⟩) HL1.out).trans hx1
      have hz2 := (hb2.cell (p := ⟨w.heap.size, 2, none⟩) HL1.out).trans hx2
      have HL2 := Lib.hid (old_block hz0)
      clear hb2 hwc hcell hx0 hx1 hx2 hx9
      go_wp2_with fail
      refine (itoa m HM.out.1 HM.out.2 _ HT2.out).mono ?_
      rintro e w4 ⟨rfl, h4⟩
      have H4 := Aside0.mk (below_then H2.out H2.out.size h4)
      clear h4
      go_wp2_with fail
      go_ret2
      exact ⟨by simp [polT], H4.out⟩
set_option maxHeartbeats 4000000 in
set_option maxRecDepth 100000 in
theorem policyString_ok (k : Int) (j : Nat) (hk : (k = 1 ∧ j = 0) ∨ (k = 2 ∧ j = 1) ∨ (k = 3 ∧ j = 2) ∨ (k = 4 ∧ j = 3) ∨ (k = 5 ∧ j = 4)) (s m : Int) (w : World) (hf : fault k s m = 0) (hT : Tabs w) (hW : Words w) :
    Calls Tryd.prog 8 #[.agg #[.int .i64 k, .int .i64 s, .int .i64 m]] w fun e w' => e = .returned (.tuple #[.string (polT j s m), .int .i64 0]) ∧ Below w.heap.size w w' := by
  have HWD := Aside0.mk hW
  clear hW
  obtain ⟨_, _, hs2, hs0, hm0, hm1⟩ := fault_right hf
  have HF := Lib.hid hf
  have HT := Aside0.mk hT
  have HS : Hid (j = 1 → 0 ≤ s ∧ s ≤ 100000) := Lib.hid (fun h => by have := hs2 (by omega); omega)
  have HM : Hid (0 ≤ m ∧ m ≤ 100000) := Lib.hid ⟨hm0, hm1⟩
  clear hf hT hs2 hs0 hm0 hm1
  rcases hk with ⟨rfl, rfl⟩ | ⟨rfl, rfl⟩ | ⟨rfl, rfl⟩ | ⟨rfl, rfl⟩ | ⟨rfl, rfl⟩
  · have hbm := itB_size m HM.out.1 HM.out.2
    have hbw := wd_size 0
    go_enter Tryd.func8, Tryd.ntmps8
    go_wp2_with fail
    refine (policyFault _ _ _ _).mono ?_
    rintro e w1 ⟨rfl, h1⟩
    rw [HF.out]
    obtain ⟨hx0, hx1, hx2⟩ := boxed h1
    have H1 := Aside0.mk (below_then (below_alloc (Below.refl _ _) _) (by simp) h1)
    clear h1
    have HT2 := Aside0.mk (HT.out.below H1.out)
    have H2 := Aside0.mk H1.out
    have HL2 := Lib.hid (old_block hx0)
    have hz0 := hx0
    have hz1 := hx1
    have hz2 := hx2
    obtain ⟨pb, po, pc, _, hp0, _, hp1⟩ := HWD.out.below H1.out
    have hp2 : w1.cell? ⟨pb, po + 1, none⟩ = some (.string (wd 0)) := hp1 0 (by omega)
    clear hx0 hx1 hx2 hp1
    go_wp2_with fail
    refine (itoa m HM.out.1 HM.out.2 _ HT2.out).mono ?_
    rintro e w4 ⟨rfl, h4⟩
    have H4 := Aside0.mk (below_then H2.out H2.out.size h4)
    clear h4
    go_wp2_with fail
    go_ret2
    exact ⟨by simp [polT], H4.out⟩
  · have HS2 := Aside0.mk (HS.out rfl)
    have hbs := itB_size s HS2.out.1 HS2.out.2
    have hbm := itB_size m HM.out.1 HM.out.2
    have hbw := wd_size 1
    go_enter Tryd.func8, Tryd.ntmps8
    go_wp2_with fail
    refine (policyFault _ _ _ _).mono ?_
    rintro e w1 ⟨rfl, h1⟩
    rw [HF.out]
    obtain ⟨hx0, hx1, hx2⟩ := boxed h1
    have H1 := Aside0.mk (below_then (below_alloc (Below.refl _ _) _) (by simp) h1)
    clear h1
    have HT2 := Aside0.mk (HT.out.below H1.out)
    have H2 := Aside0.mk H1.out
    have HL2 := Lib.hid (old_block hx0)
    have hz0 := hx0
    have hz1 := hx1
    have hz2 := hx2
    obtain ⟨pb, po, pc, _, hp0, _, hp1⟩ := HWD.out.below H1.out
    have hp2 : w1.cell? ⟨pb, po + 2, none⟩ = some (.string (wd 1)) := hp1 1 (by omega)
    clear hx0 hx1 hx2 hp1
    go_wp2_with fail
    refine (itoa s HS2.out.1 HS2.out.2 _ HT2.out).mono ?_
    rintro e w3 ⟨rfl, h3⟩
    have hy0 := (h3.cell (p := ⟨w.heap.size, 0, none⟩) HL2.out).trans hz0
    have hy1 := (h3.cell (p := ⟨w.heap.size, 1, none⟩) HL2.out).trans hz1
    have hy2 := (h3.cell (p := ⟨w.heap.size, 2, none⟩) HL2.out).trans hz2
    have HT3 := Aside0.mk (HT2.out.below h3)
    have H3 := Aside0.mk (below_then H2.out H2.out.size h3)
    clear h3 hz0 hz1 hz2
    go_wp2_with fail
    refine (itoa m HM.out.1 HM.out.2 _ HT3.out).mono ?_
    rintro e w4 ⟨rfl, h4⟩
    have H4 := Aside0.mk (below_then H3.out H3.out.size h4)
    clear h4
    go_wp2_with fail
    go_ret2
    exact ⟨by simp [polT], H4.out⟩
  · have hbm := itB_size m HM.out.1 HM.out.2
    have hbw := wd_size 2
    go_enter Tryd.func8, Tryd.ntmps8
    go_wp2_with fail
    refine (policyFault _ _ _ _).mono ?_
    rintro e w1 ⟨rfl, h1⟩
    rw [HF.out]
    obtain ⟨hx0, hx1, hx2⟩ := boxed h1
    have H1 := Aside0.mk (below_then (below_alloc (Below.refl _ _) _) (by simp) h1)
    clear h1
    have HT2 := Aside0.mk (HT.out.below H1.out)
    have H2 := Aside0.mk H1.out
    have HL2 := Lib.hid (old_block hx0)
    have hz0 := hx0
    have hz1 := hx1
    have hz2 := hx2
    obtain ⟨pb, po, pc, _, hp0, _, hp1⟩ := HWD.out.below H1.out
    have hp2 : w1.cell? ⟨pb, po + 3, none⟩ = some (.string (wd 2)) := hp1 2 (by omega)
    clear hx0 hx1 hx2 hp1
    go_wp2_with fail
    refine (itoa m HM.out.1 HM.out.2 _ HT2.out).mono ?_
    rintro e w4 ⟨rfl, h4⟩
    have H4 := Aside0.mk (below_then H2.out H2.out.size h4)
    clear h4
    go_wp2_with fail
    go_ret2
    exact ⟨by simp [polT], H4.out⟩
  · have hbm := itB_size m HM.out.1 HM.out.2
    have hbw := wd_size 3
    go_enter Tryd.func8, Tryd.ntmps8
    go_wp2_with fail
    refine (policyFault _ _ _ _).mono ?_
    rintro e w1 ⟨rfl, h1⟩
    rw [HF.out]
    obtain ⟨hx0, hx1, hx2⟩ := boxed h1
    have H1 := Aside0.mk (below_then (below_alloc (Below.refl _ _) _) (by simp) h1)
    clear h1
    have HT2 := Aside0.mk (HT.out.below H1.out)
    have H2 := Aside0.mk H1.out
    have HL2 := Lib.hid (old_block hx0)
    have hz0 := hx0
    have hz1 := hx1
    have hz2 := hx2
    obtain ⟨pb, po, pc, _, hp0, _, hp1⟩ := HWD.out.below H1.out
    have hp2 : w1.cell? ⟨pb, po + 4, none⟩ = some (.string (wd 3)) := hp1 3 (by omega)
    clear hx0 hx1 hx2 hp1
    go_wp2_with fail
    refine (itoa m HM.out.1 HM.out.2 _ HT2.out).mono ?_
    rintro e w4 ⟨rfl, h4⟩
    have H4 := Aside0.mk (below_then H2.out H2.out.size h4)
    clear h4
    go_wp2_with fail
    go_ret2
    exact ⟨by simp [polT], H4.out⟩
  · have hbm := itB_size m HM.out.1 HM.out.2
    have hbw := wd_size 4
    go_enter Tryd.func8, Tryd.ntmps8
    go_wp2_with fail
    refine (policyFault _ _ _ _).mono ?_
    rintro e w1 ⟨rfl, h1⟩
    rw [HF.out]
    obtain ⟨hx0, hx1, hx2⟩ := boxed h1
    have H1 := Aside0.mk (below_then (below_alloc (Below.refl _ _) _) (by simp) h1)
    clear h1
    have HT2 := Aside0.mk (HT.out.below H1.out)
    have H2 := Aside0.mk H1.out
    have HL2 := Lib.hid (old_block hx0)
    have hz0 := hx0
    have hz1 := hx1
    have hz2 := hx2
    obtain ⟨pb, po, pc, _, hp0, _, hp1⟩ := HWD.out.below H1.out
    have hp2 : w1.cell? ⟨pb, po + 5, none⟩ = some (.string (wd 4)) := hp1 4 (by omega)
    clear hx0 hx1 hx2 hp1
    go_wp2_with fail
    refine (itoa m HM.out.1 HM.out.2 _ HT2.out).mono ?_
    rintro e w4 ⟨rfl, h4⟩
    have H4 := Aside0.mk (below_then H2.out H2.out.size h4)
    clear h4
    go_wp2_with fail
    go_ret2
    exact ⟨by simp [polT], H4.out⟩
end Go.Proofs.YtnikkejfpnnmcaaDoor.Pol
