/- The statement RopeOthers: ropes of another book, policy or leaf do not join, and ropes of the same do. -/
import Derived.Test.YtancgipidbojkaaRopeJoin
namespace Go.Proofs.Ytancgipidbojkaa.RopeJoin
open Go.RowKit Go.Proofs.YtancgipidbojkaaW.PrintWords Go.Proofs.YtancgipidbojkaaW.PrintLast Go.Proofs.YtancgipidbojkaaW.PrintMore Go.Proofs.Ytancgipidbojkaa.Book Go.Proofs.Ytancgipidbojkaa.Policy Go.Proofs.Ytancgipidbojkaa.Made
attribute [local go_sem] max2_int min2_int max_two min_two
attribute [local go_sem high] eqPolicy

/-- The two policies that came in lie in blocks of their own. -/
structure Two (w0 w : World) (k s m k' s' m' : Int) : Prop where
  below : Below w0.heap.size w0 w
  size : w0.heap.size + 2 ≤ w.heap.size
  a : w.heap[w0.heap.size]? = some (.cells #[.int .i64 k, .int .i64 s, .int .i64 m] 48)
  b : w.heap[w0.heap.size + 1]? = some (.cells #[.int .i64 k', .int .i64 s', .int .i64 m'] 48)
theorem Two.start (w : World) (k s m k' s' m' : Int) : Two w ((w.alloc (.cells #[.int .i64 k, .int .i64 s, .int .i64 m] 48)).alloc (.cells #[.int .i64 k', .int .i64 s', .int .i64 m'] 48)) k s m k' s' m' where
  below := below_alloc (below_alloc (Below.refl _ _) _) _
  size := by rw [alloc_size, alloc_size]; omega
  a := blk_alloc (blk_new w _) _
  b := two_new w _ _
theorem Two.step {w0 w w1 : World} {k s m k' s' m' : Int} (h : Two w0 w k s m k' s' m') (hb : Below w.heap.size w w1) : Two w0 w1 k s m k' s' m' where
  below := below_then h.below h.below.size hb
  size := Nat.le_trans h.size hb.size
  a := blk_below h.a hb
  b := blk_below h.b hb
theorem Two.cells {w0 w : World} {k s m k' s' m' : Int} (h : Two w0 w k s m k' s' m') :
    (w.cell? ⟨w0.heap.size, 0, none⟩ = some (.int .i64 k) ∧ w.cell? ⟨w0.heap.size, 1, none⟩ = some (.int .i64 s) ∧ w.cell? ⟨w0.heap.size, 2, none⟩ = some (.int .i64 m)) ∧
    (w.cell? ⟨w0.heap.size + 1, 0, none⟩ = some (.int .i64 k') ∧ w.cell? ⟨w0.heap.size + 1, 1, none⟩ = some (.int .i64 s') ∧ w.cell? ⟨w0.heap.size + 1, 2, none⟩ = some (.int .i64 m')) :=
  ⟨⟨by rw [blk_cell h.a]; rfl, by rw [blk_cell h.a]; rfl, by rw [blk_cell h.a]; rfl⟩, ⟨by rw [blk_cell h.b]; rfl, by rw [blk_cell h.b]; rfl, by rw [blk_cell h.b]; rfl⟩⟩

theorem held_mine (limit : Int) : (heldS (oneBook limit) 1).2 = 0 := by rw [held_one, if_pos rfl]

set_option maxHeartbeats 4000000 in
set_option maxRecDepth 100000 in
theorem ropeOthers_out (k s m leaf k' s' m' other : Int) (w : World)
    (hout : fault k s m ≠ 0 ∨ (fault k s m = 0 ∧ fault k' s' m' ≠ 0) ∨ (fault k s m = 0 ∧ fault k' s' m' = 0 ∧ leaf < 1) ∨ (fault k s m = 0 ∧ fault k' s' m' = 0 ∧ 1 ≤ leaf ∧ other < 1) ∨
      (fault k s m = 0 ∧ fault k' s' m' = 0 ∧ 1 ≤ leaf ∧ 1 ≤ other ∧ mn 4096 m < leaf) ∨ (fault k s m = 0 ∧ fault k' s' m' = 0 ∧ 1 ≤ leaf ∧ 1 ≤ other ∧ leaf ≤ mn 4096 m ∧ mn 4096 m' < other)) :
    Calls Try.prog 14 #[.agg #[.int .i64 k, .int .i64 s, .int .i64 m], .int .i64 leaf, .agg #[.int .i64 k', .int .i64 s', .int .i64 m'], .int .i64 other] w fun e w' => e = .returned (.bool true) ∧ Below w.heap.size w w' := by
  have HT := Aside0.mk (Two.start w k s m k' s' m')
  have HO := Aside0.mk hout
  clear hout
  go_enter Try.func14, Try.ntmps14
  go_wp2_with fail
  refine (book 1000 (by decide) (by decide) _).mono ?_
  rintro e w1 ⟨rfl, q1, _, hb, _⟩
  have HT1 := Aside0.mk (HT.out.step hb)
  clear hb
  go_wp2_with fail
  refine (book 1000 (by decide) (by decide) _).mono ?_
  rintro e w2 ⟨rfl, q2, _, hb, _⟩
  have HT2 := Aside0.mk (HT1.out.step hb)
  obtain ⟨⟨a0, a1, a2⟩, b0, b1, b2⟩ := (HT1.out.step hb).cells
  clear hb
  go_wp2_with fail
  refine (policyError _ _ _ _).mono ?_
  rintro e w3 ⟨rfl, hb⟩
  have HT3 := Aside0.mk (HT2.out.step hb)
  obtain ⟨⟨c0, c1, c2⟩, d0, d1, d2⟩ := (HT2.out.step hb).cells
  clear hb
  rcases HO.out with h | ⟨h1, h2⟩ | ⟨h1, h2, h3⟩ | ⟨h1, h2, h3, h4⟩ | ⟨h1, h2, h3, h4, h5⟩ | ⟨h1, h2, h3, h4, h5, h6⟩
  · have hbn : (fault k s m != 0) = true := bne_iff_ne.2 h
    go_wp2
    go_ret
    exact ⟨rfl, HT3.out.below⟩
  · rw [h1]
    have hbn : (fault k' s' m' != 0) = true := bne_iff_ne.2 h2
    clear h1 h2
    go_wp2_with (go_at_call 33; refine (policyError _ _ _ _).mono ?_; rintro e w4 ⟨rfl, hb⟩; have HT4 := Aside0.mk (HT3.out.step hb); clear hb)
    go_ret
    exact ⟨rfl, HT4.out.below⟩
  · rw [h1]
    have hd : decide (leaf < 1) = true := decide_eq_true h3
    clear h1
    go_wp2_with fail
    refine (policyError _ _ _ _).mono ?_
    rintro e w4 ⟨rfl, hb⟩
    rw [h2]
    clear h2
    have HT4 := Aside0.mk (HT3.out.step hb)
    obtain ⟨⟨e0, e1, e2⟩, f0, f1, f2⟩ := (HT3.out.step hb).cells
    clear hb a0 a1 a2 b0 b1 b2 c0 c1 c2 d0 d1 d2
    go_wp2
    go_ret
    exact ⟨rfl, HT4.out.below⟩
  · rw [h1]
    have hd : decide (other < 1) = true := decide_eq_true h4
    clear h1
    go_wp2_with fail
    refine (policyError _ _ _ _).mono ?_
    rintro e w4 ⟨rfl, hb⟩
    rw [h2]
    clear h2
    have HT4 := Aside0.mk (HT3.out.step hb)
    obtain ⟨⟨e0, e1, e2⟩, f0, f1, f2⟩ := (HT3.out.step hb).cells
    clear hb a0 a1 a2 b0 b1 b2 c0 c1 c2 d0 d1 d2
    go_wp2
    go_ret
    exact ⟨rfl, HT4.out.below⟩
  · rw [h1]
    have hm : (if m < 4096 then m else 4096) = mn 4096 m := rfl
    have hd : decide (mn 4096 m < leaf) = true := decide_eq_true h5
    clear h1
    go_wp2_with fail
    refine (policyError _ _ _ _).mono ?_
    rintro e w4 ⟨rfl, hb⟩
    rw [h2]
    clear h2
    have HT4 := Aside0.mk (HT3.out.step hb)
    obtain ⟨⟨e0, e1, e2⟩, f0, f1, f2⟩ := (HT3.out.step hb).cells
    clear hb a0 a1 a2 b0 b1 b2 c0 c1 c2 d0 d1 d2
    go_wp2
    go_ret
    exact ⟨rfl, HT4.out.below⟩
  · rw [h1]
    have hm : (if m < 4096 then m else 4096) = mn 4096 m := rfl
    have hm' : (if m' < 4096 then m' else 4096) = mn 4096 m' := rfl
    have hd : decide (mn 4096 m' < other) = true := decide_eq_true h6
    clear h1
    go_wp2_with fail
    refine (policyError _ _ _ _).mono ?_
    rintro e w4 ⟨rfl, hb⟩
    rw [h2]
    clear h2
    have HT4 := Aside0.mk (HT3.out.step hb)
    obtain ⟨⟨e0, e1, e2⟩, f0, f1, f2⟩ := (HT3.out.step hb).cells
    clear hb a0 a1 a2 b0 b1 b2 c0 c1 c2 d0 d1 d2
    go_wp2
    go_ret
    exact ⟨rfl, HT4.out.below⟩

set_option maxHeartbeats 8000000 in
set_option maxRecDepth 100000 in
theorem ropeOthers_form (k s m leaf k' s' m' other : Int) (w : World)
    (hin : fault k s m = 0 ∧ fault k' s' m' = 0 ∧ (1 ≤ leaf ∧ leaf ≤ 4096) ∧ leaf ≤ m ∧ (1 ≤ other ∧ other ≤ 4096) ∧ other ≤ m') (hne : ¬ ((k = k' ∧ s = s' ∧ m = m') ∧ leaf = other)) :
    Calls Try.prog 14 #[.agg #[.int .i64 k, .int .i64 s, .int .i64 m], .int .i64 leaf, .agg #[.int .i64 k', .int .i64 s', .int .i64 m'], .int .i64 other] w fun e w' => e = .returned (.bool true) ∧ Below w.heap.size w w' := by
  have HT := Aside0.mk (Two.start w k s m k' s' m')
  have HP := Aside0.mk hin
  have HN := Lib.hid hne
  have hmin : leaf ≤ (if m < 4096 then m else 4096) := by split <;> omega
  have hmin' : other ≤ (if m' < 4096 then m' else 4096) := by split <;> omega
  have hm1 : (if m < 4096 then m else 4096) = mn 4096 m := rfl
  have hm2 : (if m' < 4096 then m' else 4096) = mn 4096 m' := rfl
  have hd1 : decide (mn 4096 m < leaf) = false := decide_eq_false (by rw [← hm1]; omega)
  have hd2 : decide (mn 4096 m' < other) = false := decide_eq_false (by rw [← hm2]; omega)
  have hl1 : 1 ≤ leaf := by omega
  have hl2 : 1 ≤ other := by omega
  clear hmin hmin' hin
  by_cases hp : k = k' ∧ s = s' ∧ m = m'
  · obtain ⟨rfl, rfl, rfl⟩ := hp
    have hlb : (leaf != other) = true := bne_iff_ne.2 (fun e => hne ⟨⟨rfl, rfl, rfl⟩, e⟩)
    clear hne
    go_enter Try.func14, Try.ntmps14
    go_wp2_with fail
    refine (book 1000 (by decide) (by decide) _).mono ?_
    rintro e w1 ⟨rfl, q1, hB, hb, hF1⟩
    have HT1 := Aside0.mk (HT.out.step hb)
    rw [alloc_size, alloc_size] at hB
    have hp1 := blk_lt hB.head
    have HB1 := Aside0.mk hB
    clear hb hB hF1
    go_wp2_with fail
    refine (book 1000 (by decide) (by decide) _).mono ?_
    rintro e w2 ⟨rfl, q2, hB, hb, hF2⟩
    have HT2 := Aside0.mk (HT1.out.step hb)
    obtain ⟨⟨a0, a1, a2⟩, b0, b1, b2⟩ := (HT1.out.step hb).cells
    have HB1 := Aside0.mk (frame_below HB1.out hb)
    have HB2 := Aside0.mk hB
    have hs2 := hb.size
    clear hb hB hF2
    go_wp2_with fail
    refine (policyError _ _ _ _).mono ?_
    rintro e w3 ⟨rfl, hb⟩
    rw [HP.out.1]
    have HT3 := Aside0.mk (HT2.out.step hb)
    obtain ⟨⟨c0, c1, c2⟩, d0, d1, d2⟩ := (HT2.out.step hb).cells
    have HB1 := Aside0.mk (frame_below HB1.out hb)
    have HB2 := Aside0.mk (frame_below HB2.out hb)
    have hs3 := hb.size
    clear hb a0 a1 a2 b0 b1 b2
    go_wp2_with fail
    refine (policyError _ _ _ _).mono ?_
    rintro e w4 ⟨rfl, hb⟩
    rw [HP.out.2.1]
    have HT4 := Aside0.mk (HT3.out.step hb)
    obtain ⟨⟨a0, a1, a2⟩, b0, b1, b2⟩ := (HT3.out.step hb).cells
    have HB1 := Aside0.mk (frame_below HB1.out hb)
    have HB2 := Aside0.mk (frame_below HB2.out hb)
    have hs4 := hb.size
    clear hb c0 c1 c2 d0 d1 d2
    go_wp2_with fail
    refine (ropeNew HB1.out 1 k s m leaf HP.out.1 HP.out.2.2.1 HP.out.2.2.2.1 (held_mine _)).mono ?_
    rintro e w5 ⟨gx, rfl, hx, hgx, hb⟩
    have HT5 := Aside0.mk (HT4.out.step hb)
    obtain ⟨⟨c0, c1, c2⟩, d0, d1, d2⟩ := (HT4.out.step hb).cells
    have HB1 := Aside0.mk (frame_below HB1.out hb)
    have HB2 := Aside0.mk (frame_below HB2.out hb)
    have HX := Aside0.mk hx
    have hlx := blk_lt hx
    clear hb hx a0 a1 a2 b0 b1 b2
    go_wp2_with fail
    refine (ropeNew HB2.out 1 k s m leaf HP.out.1 HP.out.2.2.1 HP.out.2.2.2.1 (held_mine _)).mono ?_
    rintro e w6 ⟨gy, rfl, hy, hgy, hb⟩
    have HT6 := Aside0.mk (HT5.out.step hb)
    obtain ⟨⟨a0, a1, a2⟩, b0, b1, b2⟩ := (HT5.out.step hb).cells
    have HB1 := Aside0.mk (frame_below HB1.out hb)
    have HB2 := Aside0.mk (frame_below HB2.out hb)
    have HX := Aside0.mk (blk_below HX.out hb)
    have HY := Aside0.mk hy
    have hly := blk_lt hy
    clear hb hy c0 c1 c2 d0 d1 d2
    go_wp2_with fail
    refine (ropeNew HB1.out 1 k s m other HP.out.2.1 HP.out.2.2.2.2.1 HP.out.2.2.2.2.2 (held_mine _)).mono ?_
    rintro e w7 ⟨gz, rfl, hz, hgz, hb⟩
    have HT7 := Aside0.mk (HT6.out.step hb)
    obtain ⟨⟨c0, c1, c2⟩, d0, d1, d2⟩ := (HT6.out.step hb).cells
    have HB1 := Aside0.mk (frame_below HB1.out hb)
    have HB2 := Aside0.mk (frame_below HB2.out hb)
    have HX := Aside0.mk (blk_below HX.out hb)
    have HY := Aside0.mk (blk_below HY.out hb)
    have HZ := Aside0.mk hz
    clear hb hz a0 a1 a2 b0 b1 b2
    go_wp2_with fail
    refine (join_other gx gy _ _ _ _ _ _ _ _ _ _ _ _ _ _ w7 HX.out HY.out (by omega) (by omega) HB1.out.head HB2.out.head).mono ?_
    rintro e w8 ⟨rfl, hb⟩
    have HT8 := Aside0.mk (HT7.out.step hb)
    have HB1 := Aside0.mk (frame_below HB1.out hb)
    have HB2 := Aside0.mk (frame_below HB2.out hb)
    have HX := Aside0.mk (blk_below HX.out hb)
    have HY := Aside0.mk (blk_below HY.out hb)
    have HZ := Aside0.mk (blk_below HZ.out hb)
    clear hb
    go_wp2_with fail
    refine (join_other gy gx _ _ _ _ _ _ _ _ _ _ _ _ _ _ w8 HY.out HX.out (by omega) (by omega) HB2.out.head HB1.out.head).mono ?_
    rintro e w9 ⟨rfl, hb⟩
    have HT9 := Aside0.mk (HT8.out.step hb)
    have HX := Aside0.mk (blk_below HX.out hb)
    have HZ := Aside0.mk (blk_below HZ.out hb)
    clear hb
    go_wp2_with fail
    refine (join_form gx gz _ _ _ _ _ _ _ _ _ _ w9 HX.out HZ.out (by omega) (fun h => HN.out (by simpa using h))).mono ?_
    rintro e w10 ⟨rfl, hb⟩
    go_wp2
    go_ret
    exact ⟨rfl, (HT9.out.step hb).below⟩
  · have hb1 : (!(k == k') || (!(s == s') || (!(m == m')))) = true := by simp; omega
    have hb2 : (k != k' || (s != s' || (m != m'))) = true := by simp; omega
    clear hne hp
    go_enter Try.func14, Try.ntmps14
    go_wp2_with fail
    refine (book 1000 (by decide) (by decide) _).mono ?_
    rintro e w1 ⟨rfl, q1, hB, hb, hF1⟩
    have HT1 := Aside0.mk (HT.out.step hb)
    rw [alloc_size, alloc_size] at hB
    have hp1 := blk_lt hB.head
    have HB1 := Aside0.mk hB
    clear hb hB hF1
    go_wp2_with fail
    refine (book 1000 (by decide) (by decide) _).mono ?_
    rintro e w2 ⟨rfl, q2, hB, hb, hF2⟩
    have HT2 := Aside0.mk (HT1.out.step hb)
    obtain ⟨⟨a0, a1, a2⟩, b0, b1, b2⟩ := (HT1.out.step hb).cells
    have HB1 := Aside0.mk (frame_below HB1.out hb)
    have HB2 := Aside0.mk hB
    have hs2 := hb.size
    clear hb hB hF2
    go_wp2_with fail
    refine (policyError _ _ _ _).mono ?_
    rintro e w3 ⟨rfl, hb⟩
    rw [HP.out.1]
    have HT3 := Aside0.mk (HT2.out.step hb)
    obtain ⟨⟨c0, c1, c2⟩, d0, d1, d2⟩ := (HT2.out.step hb).cells
    have HB1 := Aside0.mk (frame_below HB1.out hb)
    have HB2 := Aside0.mk (frame_below HB2.out hb)
    have hs3 := hb.size
    clear hb a0 a1 a2 b0 b1 b2
    go_wp2_with fail
    refine (policyError _ _ _ _).mono ?_
    rintro e w4 ⟨rfl, hb⟩
    rw [HP.out.2.1]
    have HT4 := Aside0.mk (HT3.out.step hb)
    obtain ⟨⟨a0, a1, a2⟩, b0, b1, b2⟩ := (HT3.out.step hb).cells
    have HB1 := Aside0.mk (frame_below HB1.out hb)
    have HB2 := Aside0.mk (frame_below HB2.out hb)
    have hs4 := hb.size
    clear hb c0 c1 c2 d0 d1 d2
    go_wp2_with fail
    refine (ropeNew HB1.out 1 k s m leaf HP.out.1 HP.out.2.2.1 HP.out.2.2.2.1 (held_mine _)).mono ?_
    rintro e w5 ⟨gx, rfl, hx, hgx, hb⟩
    have HT5 := Aside0.mk (HT4.out.step hb)
    obtain ⟨⟨c0, c1, c2⟩, d0, d1, d2⟩ := (HT4.out.step hb).cells
    have HB1 := Aside0.mk (frame_below HB1.out hb)
    have HB2 := Aside0.mk (frame_below HB2.out hb)
    have HX := Aside0.mk hx
    have hlx := blk_lt hx
    clear hb hx a0 a1 a2 b0 b1 b2
    go_wp2_with fail
    refine (ropeNew HB2.out 1 k s m leaf HP.out.1 HP.out.2.2.1 HP.out.2.2.2.1 (held_mine _)).mono ?_
    rintro e w6 ⟨gy, rfl, hy, hgy, hb⟩
    have HT6 := Aside0.mk (HT5.out.step hb)
    obtain ⟨⟨a0, a1, a2⟩, b0, b1, b2⟩ := (HT5.out.step hb).cells
    have HB1 := Aside0.mk (frame_below HB1.out hb)
    have HB2 := Aside0.mk (frame_below HB2.out hb)
    have HX := Aside0.mk (blk_below HX.out hb)
    have HY := Aside0.mk hy
    have hly := blk_lt hy
    clear hb hy c0 c1 c2 d0 d1 d2
    go_wp2_with fail
    refine (ropeNew HB1.out 1 k' s' m' other HP.out.2.1 HP.out.2.2.2.2.1 HP.out.2.2.2.2.2 (held_mine _)).mono ?_
    rintro e w7 ⟨gz, rfl, hz, hgz, hb⟩
    have HT7 := Aside0.mk (HT6.out.step hb)
    obtain ⟨⟨c0, c1, c2⟩, d0, d1, d2⟩ := (HT6.out.step hb).cells
    have HB1 := Aside0.mk (frame_below HB1.out hb)
    have HB2 := Aside0.mk (frame_below HB2.out hb)
    have HX := Aside0.mk (blk_below HX.out hb)
    have HY := Aside0.mk (blk_below HY.out hb)
    have HZ := Aside0.mk hz
    clear hb hz a0 a1 a2 b0 b1 b2
    go_wp2_with fail
    refine (join_other gx gy _ _ _ _ _ _ _ _ _ _ _ _ _ _ w7 HX.out HY.out (by omega) (by omega) HB1.out.head HB2.out.head).mono ?_
    rintro e w8 ⟨rfl, hb⟩
    have HT8 := Aside0.mk (HT7.out.step hb)
    have HB1 := Aside0.mk (frame_below HB1.out hb)
    have HB2 := Aside0.mk (frame_below HB2.out hb)
    have HX := Aside0.mk (blk_below HX.out hb)
    have HY := Aside0.mk (blk_below HY.out hb)
    have HZ := Aside0.mk (blk_below HZ.out hb)
    clear hb
    go_wp2_with fail
    refine (join_other gy gx _ _ _ _ _ _ _ _ _ _ _ _ _ _ w8 HY.out HX.out (by omega) (by omega) HB2.out.head HB1.out.head).mono ?_
    rintro e w9 ⟨rfl, hb⟩
    have HT9 := Aside0.mk (HT8.out.step hb)
    have HX := Aside0.mk (blk_below HX.out hb)
    have HZ := Aside0.mk (blk_below HZ.out hb)
    clear hb
    go_wp2_with fail
    refine (join_form gx gz _ _ _ _ _ _ _ _ _ _ w9 HX.out HZ.out (by omega) (fun h => HN.out (by simpa using h))).mono ?_
    rintro e w10 ⟨rfl, hb⟩
    go_wp2
    go_ret
    exact ⟨rfl, (HT9.out.step hb).below⟩

set_option maxHeartbeats 8000000 in
set_option maxRecDepth 100000 in
theorem ropeOthers_same (k s m leaf : Int) (w : World) (hin : fault k s m = 0 ∧ fault k s m = 0 ∧ (1 ≤ leaf ∧ leaf ≤ 4096) ∧ leaf ≤ m ∧ (1 ≤ leaf ∧ leaf ≤ 4096) ∧ leaf ≤ m) :
    Calls Try.prog 14 #[.agg #[.int .i64 k, .int .i64 s, .int .i64 m], .int .i64 leaf, .agg #[.int .i64 k, .int .i64 s, .int .i64 m], .int .i64 leaf] w fun e w' => e = .returned (.bool true) ∧ Below w.heap.size w w' := by
  have HT := Aside0.mk (Two.start w k s m k s m)
  have HP := Aside0.mk hin
  have hmin : leaf ≤ (if m < 4096 then m else 4096) := by split <;> omega
  have hm1 : (if m < 4096 then m else 4096) = mn 4096 m := rfl
  have hd1 : decide (mn 4096 m < leaf) = false := decide_eq_false (by rw [← hm1]; omega)
  have hl1 : 1 ≤ leaf := by omega
  clear hmin hin
  go_enter Try.func14, Try.ntmps14
  go_wp2_with fail
  refine (book 1000 (by decide) (by decide) _).mono ?_
  rintro e w1 ⟨rfl, q1, hB, hb, hF1⟩
  have HT1 := Aside0.mk (HT.out.step hb)
  rw [alloc_size, alloc_size] at hB
  have hp1 := blk_lt hB.head
  have HB1 := Aside0.mk hB
  clear hb hB hF1
  go_wp2_with fail
  refine (book 1000 (by decide) (by decide) _).mono ?_
  rintro e w2 ⟨rfl, q2, hB, hb, hF2⟩
  have HT2 := Aside0.mk (HT1.out.step hb)
  obtain ⟨⟨a0, a1, a2⟩, b0, b1, b2⟩ := (HT1.out.step hb).cells
  have HB1 := Aside0.mk (frame_below HB1.out hb)
  have HB2 := Aside0.mk hB
  have hs2 := hb.size
  clear hb hB hF2
  go_wp2_with fail
  refine (policyError _ _ _ _).mono ?_
  rintro e w3 ⟨rfl, hb⟩
  rw [HP.out.1]
  have HT3 := Aside0.mk (HT2.out.step hb)
  obtain ⟨⟨c0, c1, c2⟩, d0, d1, d2⟩ := (HT2.out.step hb).cells
  have HB1 := Aside0.mk (frame_below HB1.out hb)
  have HB2 := Aside0.mk (frame_below HB2.out hb)
  have hs3 := hb.size
  clear hb a0 a1 a2 b0 b1 b2
  go_wp2_with fail
  refine (policyError _ _ _ _).mono ?_
  rintro e w4 ⟨rfl, hb⟩
  rw [HP.out.2.1]
  have HT4 := Aside0.mk (HT3.out.step hb)
  obtain ⟨⟨a0, a1, a2⟩, b0, b1, b2⟩ := (HT3.out.step hb).cells
  have HB1 := Aside0.mk (frame_below HB1.out hb)
  have HB2 := Aside0.mk (frame_below HB2.out hb)
  have hs4 := hb.size
  clear hb c0 c1 c2 d0 d1 d2
  go_wp2_with fail
  refine (ropeNew HB1.out 1 k s m leaf HP.out.1 HP.out.2.2.1 HP.out.2.2.2.1 (held_mine _)).mono ?_
  rintro e w5 ⟨gx, rfl, hx, hgx, hb⟩
  have HT5 := Aside0.mk (HT4.out.step hb)
  obtain ⟨⟨c0, c1, c2⟩, d0, d1, d2⟩ := (HT4.out.step hb).cells
  have HB1 := Aside0.mk (frame_below HB1.out hb)
  have HB2 := Aside0.mk (frame_below HB2.out hb)
  have HX := Aside0.mk hx
  have hlx := blk_lt hx
  clear hb hx a0 a1 a2 b0 b1 b2
  go_wp2_with fail
  refine (ropeNew HB2.out 1 k s m leaf HP.out.1 HP.out.2.2.1 HP.out.2.2.2.1 (held_mine _)).mono ?_
  rintro e w6 ⟨gy, rfl, hy, hgy, hb⟩
  have HT6 := Aside0.mk (HT5.out.step hb)
  obtain ⟨⟨a0, a1, a2⟩, b0, b1, b2⟩ := (HT5.out.step hb).cells
  have HB1 := Aside0.mk (frame_below HB1.out hb)
  have HB2 := Aside0.mk (frame_below HB2.out hb)
  have HX := Aside0.mk (blk_below HX.out hb)
  have HY := Aside0.mk hy
  have hly := blk_lt hy
  clear hb hy c0 c1 c2 d0 d1 d2
  go_wp2_with fail
  refine (ropeNew HB1.out 1 k s m leaf HP.out.2.1 HP.out.2.2.2.2.1 HP.out.2.2.2.2.2 (held_mine _)).mono ?_
  rintro e w7 ⟨gz, rfl, hz, hgz, hb⟩
  have HT7 := Aside0.mk (HT6.out.step hb)
  obtain ⟨⟨c0, c1, c2⟩, d0, d1, d2⟩ := (HT6.out.step hb).cells
  have HB1 := Aside0.mk (frame_below HB1.out hb)
  have HB2 := Aside0.mk (frame_below HB2.out hb)
  have HX := Aside0.mk (blk_below HX.out hb)
  have HY := Aside0.mk (blk_below HY.out hb)
  have HZ := Aside0.mk hz
  clear hb hz a0 a1 a2 b0 b1 b2
  go_wp2_with fail
  refine (join_other gx gy _ _ _ _ _ _ _ _ _ _ _ _ _ _ w7 HX.out HY.out (by omega) (by omega) HB1.out.head HB2.out.head).mono ?_
  rintro e w8 ⟨rfl, hb⟩
  have HT8 := Aside0.mk (HT7.out.step hb)
  have HB1 := Aside0.mk (frame_below HB1.out hb)
  have HB2 := Aside0.mk (frame_below HB2.out hb)
  have HX := Aside0.mk (blk_below HX.out hb)
  have HY := Aside0.mk (blk_below HY.out hb)
  have HZ := Aside0.mk (blk_below HZ.out hb)
  clear hb
  go_wp2_with fail
  refine (join_other gy gx _ _ _ _ _ _ _ _ _ _ _ _ _ _ w8 HY.out HX.out (by omega) (by omega) HB2.out.head HB1.out.head).mono ?_
  rintro e w9 ⟨rfl, hb⟩
  have HT9 := Aside0.mk (HT8.out.step hb)
  have HX := Aside0.mk (blk_below HX.out hb)
  have HZ := Aside0.mk (blk_below HZ.out hb)
  clear hb
  go_wp2_with fail
  refine (join_ok gx gz _ _ _ _ _ _ w9 HX.out HZ.out (by omega)).mono ?_
  rintro e w10 ⟨rfl, hu⟩
  have hbb := HT9.out.below
  have hbs := HT4.out.size
  go_wp2
  go_ret
  refine ⟨rfl, hbb.trans (hu.below hbb.size (fun k hk => ?_))⟩
  rcases hk with h | h <;> omega

theorem ropeOthers (k s m leaf k' s' m' other : Int) (w : World) (_ : (Lit.int .i64 k).wf = true) (_ : (Lit.int .i64 s).wf = true) (_ : (Lit.int .i64 m).wf = true) (_ : (Lit.int .i64 leaf).wf = true)
    (_ : (Lit.int .i64 k').wf = true) (_ : (Lit.int .i64 s').wf = true) (_ : (Lit.int .i64 m').wf = true) (_ : (Lit.int .i64 other).wf = true) :
    Calls Try.prog 14 #[.agg #[.int .i64 k, .int .i64 s, .int .i64 m], .int .i64 leaf, .agg #[.int .i64 k', .int .i64 s', .int .i64 m'], .int .i64 other] w fun e w' => e = .returned (.bool true) ∧ Below w.heap.size w w' := by
  by_cases h : fault k s m = 0 ∧ fault k' s' m' = 0 ∧ (1 ≤ leaf ∧ leaf ≤ 4096) ∧ leaf ≤ m ∧ (1 ≤ other ∧ other ≤ 4096) ∧ other ≤ m'
  · by_cases hn : (k = k' ∧ s = s' ∧ m = m') ∧ leaf = other
    · obtain ⟨⟨rfl, rfl, rfl⟩, rfl⟩ := hn
      exact ropeOthers_same k s m leaf w h
    · exact ropeOthers_form k s m leaf k' s' m' other w h hn
  · refine ropeOthers_out k s m leaf k' s' m' other w ?_
    unfold mn
    by_cases h1 : m < 4096 <;> by_cases h2 : m' < 4096
    · rw [if_pos h1, if_pos h2]; omega
    · rw [if_pos h1, if_neg h2]; omega
    · rw [if_neg h1, if_pos h2]; omega
    · rw [if_neg h1, if_neg h2]; omega
end Go.Proofs.Ytancgipidbojkaa.RopeJoin
