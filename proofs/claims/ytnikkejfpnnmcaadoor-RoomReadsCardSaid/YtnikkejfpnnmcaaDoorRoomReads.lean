/- RoomReads: the law. -/
import Derived.Test.YtnikkejfpnnmcaaDoorReadRef
namespace Go.Proofs.YtnikkejfpnnmcaaDoor.Pol
set_option linter.unusedVariables false
open Go.RowKit Go.Proofs.YtnikkejfpnnmcaaDoorW.PrintWords Go.Proofs.YtnikkejfpnnmcaaDoorW.PrintLast Go.Proofs.YtnikkejfpnnmcaaDoorW.PrintMore Go.Proofs.YtnikkejfpnnmcaaDoor.Policy
set_option linter.unusedSimpArgs false

set_option maxHeartbeats 4000000 in
set_option maxRecDepth 100000 in
theorem readLarge (s : ByteArray) (w : World) (hl : 200000 < s.size) :
    Calls Tryd.prog 11 #[.string s] w fun e w' => e = .returned (.tuple #[.agg #[.int .i64 0, .int .i64 0, .int .i64 0], .int .i64 4]) ∧ Below w.heap.size w w' := by
  have hd : decide (200000 < (s.size : Int)) = true := decide_eq_true (by omega)
  have hb := blk_new w (.cells #[.int .i64 0, .int .i64 0, .int .i64 0] 23)
  have HBW := Aside0.mk (endBelow (below_alloc (Below.refl w.heap.size w) (.cells #[.int .i64 0, .int .i64 0, .int .i64 0] 23)) (.int .i64 0) (.int .i64 0) (.int .i64 0))
  obtain ⟨hv0, hv1, hv2⟩ := endCells hb (.int .i64 0) (.int .i64 0) (.int .i64 0)
  clear hb
  go_enter Tryd.func11, Tryd.ntmps11
  go_wp2
  (try simp only [Exit.inBlock, Exit.then])
  refine bodyPost_ret (v := .tuple #[.agg #[.int .i64 0, .int .i64 0, .int .i64 0], .int .i64 4]) ?_ rfl ⟨rfl, by first | exact HBW.out | exact below_alloc (Below.refl _ _) _⟩
  rw [results_cell_tmp rfl]
  go_simp
set_option maxHeartbeats 4000000 in
set_option maxRecDepth 100000 in
theorem refLarge (s : ByteArray) (w : World) (hl : 200000 < s.size) :
    Calls Tryd.prog 12 #[.string s] w fun e w' => e = .returned (.tuple #[.agg #[.int .i64 0, .int .i64 0, .int .i64 0], .int .i64 4]) ∧ Below w.heap.size w w' := by
  have hd : decide (200000 < (s.size : Int)) = true := decide_eq_true (by omega)
  have hb := blk_new w (.cells #[.int .i64 0, .int .i64 0, .int .i64 0] 23)
  have HBW := Aside0.mk (endBelow (below_alloc (Below.refl w.heap.size w) (.cells #[.int .i64 0, .int .i64 0, .int .i64 0] 23)) (.int .i64 0) (.int .i64 0) (.int .i64 0))
  obtain ⟨hv0, hv1, hv2⟩ := endCells hb (.int .i64 0) (.int .i64 0) (.int .i64 0)
  clear hb
  go_enter Tryd.func12, Tryd.ntmps12
  go_wp2
  (try simp only [Exit.inBlock, Exit.then])
  refine bodyPost_ret (v := .tuple #[.agg #[.int .i64 0, .int .i64 0, .int .i64 0], .int .i64 4]) ?_ rfl ⟨rfl, by first | exact HBW.out | exact below_alloc (Below.refl _ _) _⟩
  rw [results_cell_tmp rfl]
  go_simp

/-- What the program's variables hold where RoomReads begins. -/
structure AllVars (w : World) : Prop where
  tabs : Tabs w
  errs : Errs w
  words : Words6 w
/-- Both say the same. -/
theorem readBoth (s : ByteArray) (w : World) (hA : AllVars w) (mx : Int) (hx : w.cell? ⟨4, 0, none⟩ = some (.int .i64 mx)) : ∃ k st m er : Int,
    Calls Tryd.prog 11 #[.string s] w (fun e w' => e = .returned (.tuple #[.agg #[.int .i64 k, .int .i64 st, .int .i64 m], .int .i64 er]) ∧ Below w.heap.size w w') ∧
    ∀ w1, Below w.heap.size w w1 → Calls Tryd.prog 12 #[.string s] w1 (fun e w' => e = .returned (.tuple #[.agg #[.int .i64 k, .int .i64 st, .int .i64 m], .int .i64 er]) ∧ Below w1.heap.size w1 w') := by
  by_cases hl : 200000 < s.size
  · exact ⟨0, 0, 0, 4, readLarge s w hl, fun w1 _ => refLarge s w1 hl⟩
  · obtain ⟨a, L, h1, h2, h3⟩ := splitAny s (by omega)
    obtain ⟨K, k0, k5, k1, k2⟩ := kinds a
    have both : ∃ k st m er, Out K L k st m er := by
      by_cases h : ∃ s' m', GoodL K L s' m'
      · obtain ⟨s', m', hg⟩ := h
        by_cases hf : fault K s' m' = 0
        · exact ⟨_, _, _, _, out_ok hg hf⟩
        · exact ⟨_, _, _, _, out_fault hg hf⟩
      · exact ⟨_, _, _, _, out_bad (fun s' m' hg => h ⟨s', m', hg⟩)⟩
    obtain ⟨k, st, m, er, ho⟩ := both
    refine ⟨k, st, m, er, (readAny s w a L K (by omega) h1 h2 k0 k5 k1 h3 hA.tabs hA.errs mx hx).mono ?_, fun w1 hb => (refAny s w1 a L K _ (by omega) h1 h2 k0 k5 rfl k2 h3 (hA.tabs.below hb) (hA.errs.below hb) (hA.words.below hb) mx (cell_stays hx hb)).mono ?_⟩
    · rintro e w' ⟨k', st', m', er', ho', rfl, hb⟩
      obtain ⟨rfl, rfl, rfl, rfl⟩ := out_inj ho ho'
      exact ⟨rfl, hb⟩
    · rintro e w' ⟨k', st', m', er', ho', rfl, hb⟩
      obtain ⟨rfl, rfl, rfl, rfl⟩ := out_inj ho ho'
      exact ⟨rfl, hb⟩

set_option maxHeartbeats 4000000 in
set_option maxRecDepth 100000 in
theorem roomReads (s : ByteArray) (w : World) (hA : AllVars w) (mx : Int) (hx : w.cell? ⟨4, 0, none⟩ = some (.int .i64 mx)) :
    Calls Tryd.prog 4 #[.string s] w fun e w' => e = .returned (.bool true) ∧ Below w.heap.size w w' := by
  obtain ⟨k, st, m, er, h1, h2⟩ := readBoth s w hA mx hx
  have H1 := Aside0.mk h1
  have H2 := Lib.hid h2
  clear h1 h2 hA hx
  go_enter Tryd.func4, Tryd.ntmps4
  go_wp2_with fail
  refine H1.out.mono ?_
  rintro e w1 ⟨rfl, hb1⟩
  have HB1 := Aside0.mk (below_alloc hb1 (.cells #[.int .i64 k, .int .i64 st, .int .i64 m] 23))
  have hblk := blk_new w1 (.cells #[.int .i64 k, .int .i64 st, .int .i64 m] 23)
  clear hb1
  go_wp2_with fail
  refine (H2.out _ HB1.out).mono ?_
  rintro e w2 ⟨rfl, hb2⟩
  have hb3 := (hb2.block _ (blk_in hblk)).trans hblk
  have HB2 := Aside0.mk (below_then HB1.out HB1.out.size hb2)
  have hlt : w1.heap.size < w2.heap.size := blk_in hb3
  have hc0 : w2.cell? ⟨w1.heap.size, 0, none⟩ = some (.int .i64 k) := by rw [blk_cell hb3]; rfl
  have hc1 : w2.cell? ⟨w1.heap.size, 1, none⟩ = some (.int .i64 st) := by rw [blk_cell hb3]; rfl
  have hc2 : w2.cell? ⟨w1.heap.size, 2, none⟩ = some (.int .i64 m) := by rw [blk_cell hb3]; rfl
  clear hb2 hb3 hblk
  go_wp2
  go_ret
  exact ⟨rfl, by first | exact HB2.out | exact below_alloc HB2.out _⟩
end Go.Proofs.YtnikkejfpnnmcaaDoor.Pol
