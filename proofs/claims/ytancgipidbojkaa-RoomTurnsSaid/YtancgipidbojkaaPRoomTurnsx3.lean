-- PRINTED BY print.sh 35421559b90ae4d0a3588c463048766b98c2df88dd9212a6774a882060cdf62d: not written by this session
import Derived.Test.YtancgipidbojkaaPRoomTurnsx0
import Derived.Test.YtancgipidbojkaaPRoomTurnsx2
namespace Go.Proofs.Ytancgipidbojkaa.PRoomTurns
open Go.RowKit Go.Proofs.YtancgipidbojkaaW.PrintWords Go.Proofs.YtancgipidbojkaaW.PrintLast Go.Proofs.YtancgipidbojkaaW.PrintMore
attribute [local go_sem] max2_int min2_int max_two min_two max_three min_three max_four min_four   -- for this text's walks alone
set_option linter.unusedVariables false
set_option linter.unusedSimpArgs false

/-! ### cornkeep1_RoomTurns: function 12 -/
mutual
def cornkeep1_RoomTurns.j0 : Nat → Int → Int → Bool → Int → Int → Int → Option (Bool)
  | 0, _, _, _, _, _, _ => none
  | k + 1, x1, x2, x40, x146000, x146001, x146002 => if x40 = true then (some false) else ((room_Shrink.f k x146000 x146001 x146002 x1 x2).bind fun bt149 => (if bt149.2 = 0 then (if bt149.1 < x2 then (cornkeep1_RoomTurns.j1 k x2 true x146000 x146001 x146002) else (cornkeep1_RoomTurns.j1 k x2 (decide (bt149.1 > x1)) x146000 x146001 x146002)) else (cornkeep1_RoomTurns.j1 k x2 false x146000 x146001 x146002)))
def cornkeep1_RoomTurns.j1 : Nat → Int → Bool → Int → Int → Int → Option (Bool)
  | 0, _, _, _, _, _ => none
  | k + 1, x2, x59, x146000, x146001, x146002 => if x59 = true then (some false) else ((room_Grow.f k x146000 x146001 x146002 0 x2).bind fun bt151 => (if bt151.2 = 0 then ((room_Shrink.f k x146000 x146001 x146002 bt151.1 x2).bind fun bt153 => (if bt153.2 = 0 then (some (bt153.1 == bt151.1)) else (some false))) else (some true)))
end
def cornkeep1_RoomTurns.f (k : Nat) (a0_0 : Int) (a0_1 : Int) (a0_2 : Int) (a1 : Int) (a2 : Int) : Option (Bool) := (cornkeep1_awakeRoom.f k).bind fun t146 => (if t146 = true then ((room_Grow.f k a0_0 a0_1 a0_2 a1 a2).bind fun bt147 => (if bt147.2 = 0 then (if bt147.1 < a2 then (cornkeep1_RoomTurns.j0 k a1 a2 true a0_0 a0_1 a0_2) else (if bt147.1 < a1 then (cornkeep1_RoomTurns.j0 k a1 a2 true a0_0 a0_1 a0_2) else (cornkeep1_RoomTurns.j0 k a1 a2 false a0_0 a0_1 a0_2))) else (cornkeep1_RoomTurns.j0 k a1 a2 (bt147.1 != 0) a0_0 a0_1 a0_2))) else (some false))
theorem cornkeep1_RoomTurns.mono_l : ∀ k, (∀ y0 y1 y2 y3 y4 y5, LeO (cornkeep1_RoomTurns.j0 k y0 y1 y2 y3 y4 y5) (cornkeep1_RoomTurns.j0 (k + 1) y0 y1 y2 y3 y4 y5)) ∧ (∀ y0 y1 y2 y3 y4, LeO (cornkeep1_RoomTurns.j1 k y0 y1 y2 y3 y4) (cornkeep1_RoomTurns.j1 (k + 1) y0 y1 y2 y3 y4))
  | 0 => ⟨fun _ _ _ _ _ _ r h => by simp [cornkeep1_RoomTurns.j0] at h, fun _ _ _ _ _ r h => by simp [cornkeep1_RoomTurns.j1] at h⟩
  | k + 1 => by
    obtain ⟨ih0, ih1⟩ := cornkeep1_RoomTurns.mono_l k
    refine ⟨?_, ?_⟩
    · intro y0 y1 y2 y3 y4 y5
      unfold cornkeep1_RoomTurns.j0
      repeat' first
      | (with_reducible exact ih0 _ _ _ _ _ _)
      | (with_reducible exact ih1 _ _ _ _ _)
      | (with_reducible exact cornkeep1_awakeRoom.mono _)
      | (with_reducible exact room_Grow.mono _ _ _ _ _ _)
      | (with_reducible exact room_Shrink.mono _ _ _ _ _ _)
      | (with_reducible exact LeO.refl _)
      | (with_reducible exact LeO.none _)
      | (with_reducible refine LeO.ite ?_ ?_)
      | (with_reducible refine LeO.bind ?_ (fun _ => ?_))
      | exact ih0 _ _ _ _ _ _
      | exact ih1 _ _ _ _ _
      | exact cornkeep1_awakeRoom.mono _
      | exact room_Grow.mono _ _ _ _ _ _
      | exact room_Shrink.mono _ _ _ _ _ _
      | exact LeO.none _
      | refine LeO.ite ?_ ?_
      | refine LeO.bind ?_ (fun _ => ?_)
    · intro y0 y1 y2 y3 y4
      unfold cornkeep1_RoomTurns.j1
      repeat' first
      | (with_reducible exact ih0 _ _ _ _ _ _)
      | (with_reducible exact ih1 _ _ _ _ _)
      | (with_reducible exact cornkeep1_awakeRoom.mono _)
      | (with_reducible exact room_Grow.mono _ _ _ _ _ _)
      | (with_reducible exact room_Shrink.mono _ _ _ _ _ _)
      | (with_reducible exact LeO.refl _)
      | (with_reducible exact LeO.none _)
      | (with_reducible refine LeO.ite ?_ ?_)
      | (with_reducible refine LeO.bind ?_ (fun _ => ?_))
      | exact ih0 _ _ _ _ _ _
      | exact ih1 _ _ _ _ _
      | exact cornkeep1_awakeRoom.mono _
      | exact room_Grow.mono _ _ _ _ _ _
      | exact room_Shrink.mono _ _ _ _ _ _
      | exact LeO.none _
      | refine LeO.ite ?_ ?_
      | refine LeO.bind ?_ (fun _ => ?_)
theorem cornkeep1_RoomTurns.mono : ∀ a0 a1 a2 a3 a4 k, LeO (cornkeep1_RoomTurns.f k a0 a1 a2 a3 a4) (cornkeep1_RoomTurns.f (k + 1) a0 a1 a2 a3 a4) := by
  intro a0 a1 a2 a3 a4 k
  obtain ⟨ih0, ih1⟩ := cornkeep1_RoomTurns.mono_l k
  unfold cornkeep1_RoomTurns.f
  repeat' first
      | (with_reducible exact ih0 _ _ _ _ _ _)
      | (with_reducible exact ih1 _ _ _ _ _)
      | (with_reducible exact cornkeep1_awakeRoom.mono _)
      | (with_reducible exact room_Grow.mono _ _ _ _ _ _)
      | (with_reducible exact room_Shrink.mono _ _ _ _ _ _)
      | (with_reducible exact LeO.refl _)
      | (with_reducible exact LeO.none _)
      | (with_reducible refine LeO.ite ?_ ?_)
      | (with_reducible refine LeO.bind ?_ (fun _ => ?_))
      | exact ih0 _ _ _ _ _ _
      | exact ih1 _ _ _ _ _
      | exact cornkeep1_awakeRoom.mono _
      | exact room_Grow.mono _ _ _ _ _ _
      | exact room_Shrink.mono _ _ _ _ _ _
      | exact LeO.none _
      | refine LeO.ite ?_ ?_
      | refine LeO.bind ?_ (fun _ => ?_)
set_option maxHeartbeats 8000000 in
set_option maxRecDepth 100000 in
theorem cornkeep1_RoomTurns.calls (k : Nat) (a0_0 : Int) (a0_1 : Int) (a0_2 : Int) (a1 : Int) (a2 : Int) (r : Bool) (w : World) (h : cornkeep1_RoomTurns.f k a0_0 a0_1 a0_2 a1 a2 = some r) :
    Calls Try.prog 12 #[.agg #[.int .i64 a0_0, .int .i64 a0_1, .int .i64 a0_2], .int .i64 a1, .int .i64 a2] w fun e w' => e = .returned (.bool r) ∧ Below w.heap.size w w' := by
  have hu48 := Try.underlying48
  have HB := Aside0.mk (Below.refl w.heap.size w)
  have H : ((cornkeep1_awakeRoom.f k).bind fun t146 => (if t146 = true then ((room_Grow.f k a0_0 a0_1 a0_2 a1 a2).bind fun bt147 => (if bt147.2 = 0 then (if bt147.1 < a2 then (cornkeep1_RoomTurns.j0 k a1 a2 true a0_0 a0_1 a0_2) else (if bt147.1 < a1 then (cornkeep1_RoomTurns.j0 k a1 a2 true a0_0 a0_1 a0_2) else (cornkeep1_RoomTurns.j0 k a1 a2 false a0_0 a0_1 a0_2))) else (cornkeep1_RoomTurns.j0 k a1 a2 (bt147.1 != 0) a0_0 a0_1 a0_2))) else (some false))) = some r := h
  clear h
  replace H := Option.bind_eq_some_iff.mp H
  obtain ⟨t146, A40, H⟩ := H
  replace H : (if t146 = true then ((room_Grow.f k a0_0 a0_1 a0_2 a1 a2).bind fun bt147 => (if bt147.2 = 0 then (if bt147.1 < a2 then (cornkeep1_RoomTurns.j0 k a1 a2 true a0_0 a0_1 a0_2) else (if bt147.1 < a1 then (cornkeep1_RoomTurns.j0 k a1 a2 true a0_0 a0_1 a0_2) else (cornkeep1_RoomTurns.j0 k a1 a2 false a0_0 a0_1 a0_2))) else (cornkeep1_RoomTurns.j0 k a1 a2 (bt147.1 != 0) a0_0 a0_1 a0_2))) else (some false)) = some r := H
  have A4 := Aside0.mk A40
  clear A40
  by_cases c5 : t146 = true
  · subst c5
    have H1 : ((room_Grow.f k a0_0 a0_1 a0_2 a1 a2).bind fun bt147 => (if bt147.2 = 0 then (if bt147.1 < a2 then (cornkeep1_RoomTurns.j0 k a1 a2 true a0_0 a0_1 a0_2) else (if bt147.1 < a1 then (cornkeep1_RoomTurns.j0 k a1 a2 true a0_0 a0_1 a0_2) else (cornkeep1_RoomTurns.j0 k a1 a2 false a0_0 a0_1 a0_2))) else (cornkeep1_RoomTurns.j0 k a1 a2 (bt147.1 != 0) a0_0 a0_1 a0_2))) = some r := by rw [if_pos rfl] at H; exact H
    clear H
    have H := H1
    clear H1
    replace H := Option.bind_eq_some_iff.mp H
    obtain ⟨⟨t147, t148⟩, A60, H⟩ := H
    replace H : (if t148 = 0 then (if t147 < a2 then (cornkeep1_RoomTurns.j0 k a1 a2 true a0_0 a0_1 a0_2) else (if t147 < a1 then (cornkeep1_RoomTurns.j0 k a1 a2 true a0_0 a0_1 a0_2) else (cornkeep1_RoomTurns.j0 k a1 a2 false a0_0 a0_1 a0_2))) else (cornkeep1_RoomTurns.j0 k a1 a2 (t147 != 0) a0_0 a0_1 a0_2)) = some r := H
    have A6 := Aside0.mk A60
    clear A60
    have HC7 := Aside0.mk H
    clear H
    go_enter Try.func12, Try.ntmps12
    go_upto_region 4 with (first | ((with_reducible refine gate_dst (N := 3) rfl ?_); refine box_event ?hg (N := 3) ?hd (cs := #[.int .i64 a0_0, .int .i64 a0_1, .int .i64 a0_2]) (t := 48) ?hr ?_; (case hd => rfl); (case hg => rfl); (case hr => first | (go_simp; done) | (go_simp; rfl)); intro gb145 hg w8 hbox hb; have n0_ := Aside0.mk (below_step (by repeat (first | (with_reducible first | exact HB.out | apply below_alloc | apply pw_below_drewN | apply below_drew1) | exact HB.out)) hb); have n1_ := Aside0.mk (hbox); have n2_ := Aside0.mk ((by rw [hg]; exact (below_size (by repeat (first | (with_reducible first | exact HB.out | apply below_alloc | apply pw_below_drewN | apply below_drew1) | exact HB.out))) : w.heap.size ≤ gb145)); have n3_ := Aside0.mk ((by rw [hg]; exact (below_size (by repeat (first | (with_reducible first | exact HB.out | apply below_alloc | apply pw_below_drewN | apply below_drew1) | exact HB.out))) : w.heap.size ≤ gb145)); clear HB; have HB := n0_; have BK145 := n1_; have GW145 := n2_; have GE145 := n3_; clear n0_ n1_ n2_ n3_; clear hb hbox hg) | ((with_reducible refine gate_callee (f := 44) rfl ?_); refine goesL_ (some 12) rfl rfl Try.func44 (by kernel_rfl) rfl #[] rfl (by (try simp only [List.map_toArray, List.map_cons, List.map_nil]); first | done | rfl | (simp only [List.length_drop, List.length_take]; rfl)) ?_; (with_reducible refine (cornkeep1_awakeRoom.calls k  true _ A4.out).mono ?_); rintro e w9 ⟨rfl, hb⟩; refine ⟨_, rfl, ?_⟩; have n0_ := Aside0.mk (blk_below (g := gb145) (o := .cells #[.int .i64 a0_0, .int .i64 a0_1, .int .i64 a0_2] 48 (0, 0)) (by (with_reducible repeat (first | refine blk_drewN ?_ _ | refine blk_drew ?_ | refine blk_alloc ?_ _)); exact BK145.out) hb); have n1_ := Aside0.mk (below_step (by repeat (first | (with_reducible first | exact HB.out | apply below_alloc | apply pw_below_drewN | apply below_drew1 | refine below_set ?_ GE145.out) | exact HB.out)) hb); clear BK145; clear HB; have BK145 := n0_; have HB := n1_; clear n0_ n1_; (try clear hb); (try clear hb2); (try clear hk); (try clear hi); have hcz10_0 : w9.cell? ⟨gb145, 0, none⟩ = some (.int .i64 a0_0) := (blk_cell BK145.out 0).trans rfl; have hcz10_1 : w9.cell? ⟨gb145, 1, none⟩ = some (.int .i64 a0_1) := (blk_cell BK145.out 1).trans rfl; have hcz10_2 : w9.cell? ⟨gb145, 2, none⟩ = some (.int .i64 a0_2) := (blk_cell BK145.out 2).trans rfl; have hfz10_0 := blk_frozen BK145.out 0; have hfz10_1 := blk_frozen BK145.out 1; have hfz10_2 := blk_frozen BK145.out 2) | ((with_reducible refine gate_callee (f := 40) rfl ?_); refine goesL_ (some 18) rfl rfl Try.func40 (by kernel_rfl) rfl #[.agg #[.int .i64 a0_0, .int .i64 a0_1, .int .i64 a0_2], .int .i64 a1, .int .i64 a2] rfl (by (try simp only [List.map_toArray, List.map_cons, List.map_nil]); first | done | rfl | (simp only [List.length_drop, List.length_take]; rfl)) ?_; (with_reducible refine (room_Grow.calls k a0_0 a0_1 a0_2 a1 a2 t147 t148 _ A6.out).mono ?_); rintro e w11 ⟨rfl, hb⟩; refine ⟨_, rfl, ?_⟩; have n0_ := Aside0.mk (blk_below (g := gb145) (o := .cells #[.int .i64 a0_0, .int .i64 a0_1, .int .i64 a0_2] 48 (0, 0)) (by (with_reducible repeat (first | refine blk_drewN ?_ _ | refine blk_drew ?_ | refine blk_alloc ?_ _)); exact BK145.out) hb); have n1_ := Aside0.mk (below_step (by repeat (first | (with_reducible first | exact HB.out | apply below_alloc | apply pw_below_drewN | apply below_drew1 | refine below_set ?_ GE145.out) | exact HB.out)) hb); clear BK145; clear HB; have BK145 := n0_; have HB := n1_; clear n0_ n1_; (try clear hb); (try clear hb2); (try clear hk); (try clear hi)))
    (try simp only [Act.put, List.setIfInBounds_toArray, List.set_cons_zero, List.set_cons_succ])
    go_cut [40] (fun v40 wc => ∃ (kq : Nat) (x40_6 : Bool), v40 = .bool x40_6 ∧ Aside0 (cornkeep1_RoomTurns.j0 kq a1 a2 x40_6 a0_0 a0_1 a0_2 = some r) ∧ Aside0 (kq ≤ k) ∧ Aside0 (wc.heap[gb145]? = some (.cells #[.int .i64 a0_0, .int .i64 a0_1, .int .i64 a0_2] 48 (0, 0))) ∧ Aside0 (Below w.heap.size w wc))
    case first =>
      have H := HC7.out
      clear HC7
      by_cases c12 : t148 = 0
      · rw [if_pos c12] at H
        have c12b0 : (t148 == 0) = true := beq_iff_eq.mpr c12
        have c12b1 : (t148 != 0) = false := bne_eq_false_iff_eq.mpr c12
        clear c12
        (first | rw [c12b0] | (simp only [i64_w, i32_w]; rw [c12b0]) | skip)
        by_cases c13 : t147 < a2
        · rw [if_pos c13] at H
          have c13b0 : decide (t147 < a2) = true := decide_eq_true c13
          clear c13
          have H' := Aside0.mk H
          clear H
          go_wp2
          go_meet
          case rel => exact ⟨_, (true), (by first | rfl | (simp; done) | (simp [*]; done)), H', ⟨by first | omega | exact Nat.le_refl _⟩, ⟨by (with_reducible repeat (first | refine blk_drewN ?_ _ | refine blk_drew ?_ | refine blk_alloc ?_ _)); exact BK145.out⟩, ⟨by repeat (first | (with_reducible first | exact HB.out | apply below_alloc | apply pw_below_drewN | apply below_drew1 | refine below_set ?_ GE145.out) | exact HB.out)⟩⟩
        · rw [if_neg c13] at H
          have c13b0 : decide (t147 < a2) = false := decide_eq_false c13
          clear c13
          by_cases c14 : t147 < a1
          · rw [if_pos c14] at H
            have c14b0 : decide (t147 < a1) = true := decide_eq_true c14
            clear c14
            have H' := Aside0.mk H
            clear H
            go_wp2
            go_meet
            case rel => exact ⟨_, (true), (by first | rfl | (simp; done) | (simp [*]; done)), H', ⟨by first | omega | exact Nat.le_refl _⟩, ⟨by (with_reducible repeat (first | refine blk_drewN ?_ _ | refine blk_drew ?_ | refine blk_alloc ?_ _)); exact BK145.out⟩, ⟨by repeat (first | (with_reducible first | exact HB.out | apply below_alloc | apply pw_below_drewN | apply below_drew1 | refine below_set ?_ GE145.out) | exact HB.out)⟩⟩
          · rw [if_neg c14] at H
            have c14b0 : decide (t147 < a1) = false := decide_eq_false c14
            clear c14
            have H' := Aside0.mk H
            clear H
            go_wp2
            go_meet
            case rel => exact ⟨_, (false), (by first | rfl | (simp; done) | (simp [*]; done)), H', ⟨by first | omega | exact Nat.le_refl _⟩, ⟨by (with_reducible repeat (first | refine blk_drewN ?_ _ | refine blk_drew ?_ | refine blk_alloc ?_ _)); exact BK145.out⟩, ⟨by repeat (first | (with_reducible first | exact HB.out | apply below_alloc | apply pw_below_drewN | apply below_drew1 | refine below_set ?_ GE145.out) | exact HB.out)⟩⟩
      · rw [if_neg c12] at H
        have c12b0 : (t148 == 0) = false := beq_eq_false_iff_ne.mpr c12
        have c12b1 : (t148 != 0) = true := bne_iff_ne.mpr c12
        (first | rw [c12b0] | (simp only [i64_w, i32_w]; rw [c12b0]) | skip)
        have H' := Aside0.mk H
        clear H
        go_wp2
        go_meet
        case rel => exact ⟨_, ((t147 != 0)), (by first | rfl | (simp; done) | (simp [*]; done)), H', ⟨by first | omega | exact Nat.le_refl _⟩, ⟨by (with_reducible repeat (first | refine blk_drewN ?_ _ | refine blk_drew ?_ | refine blk_alloc ?_ _)); exact BK145.out⟩, ⟨by repeat (first | (with_reducible first | exact HB.out | apply below_alloc | apply pw_below_drewN | apply below_drew1 | refine below_set ?_ GE145.out) | exact HB.out)⟩⟩
    case rest =>
      clear HC7
      try clear c1
      try clear p1
      try clear p2
      try clear c4
      try clear c5
      try clear c12
      try clear c12b0
      try clear c12b1
      try clear c13
      try clear c13b0
      try clear c14
      try clear c14b0
      try clear hcz10_0
      try clear hcz10_1
      try clear hcz10_2
      try clear hfz10_0
      try clear hfz10_1
      try clear hfz10_2
      obtain ⟨kq, x40_6, rfl, HA, HJ6, BK145, HB⟩ := hcut
      cases kq with
      | zero => exact absurd HA.out (by simp [cornkeep1_RoomTurns.j0])
      | succ kj6 =>
        have H := HA.out
        clear HA
        simp only [cornkeep1_RoomTurns.j0] at H
        by_cases c15 : x40_6 = true
        · subst c15
          have H1 : (some false) = some r := by rw [if_pos rfl] at H; exact H
          clear H
          have H := H1
          clear H1
          obtain rfl := Option.some.inj H
          go_wp2
          go_ret
          exact ⟨by first | rfl | (simp [errW_none, errW_some] <;> rfl) | (simp [*, errW_none, errW_some] <;> rfl), by repeat (first | (with_reducible first | exact HB.out | apply below_alloc | apply pw_below_drewN | apply below_drew1 | refine below_set ?_ GE145.out) | exact HB.out)⟩
        · replace c15 := Bool.eq_false_iff.mpr c15
          subst c15
          have H1 : ((room_Shrink.f kj6 a0_0 a0_1 a0_2 a1 a2).bind fun bt149 => (if bt149.2 = 0 then (if bt149.1 < a2 then (cornkeep1_RoomTurns.j1 kj6 a2 true a0_0 a0_1 a0_2) else (cornkeep1_RoomTurns.j1 kj6 a2 (decide (bt149.1 > a1)) a0_0 a0_1 a0_2)) else (cornkeep1_RoomTurns.j1 kj6 a2 false a0_0 a0_1 a0_2))) = some r := by rw [if_neg (show ¬ (false = true) by decide)] at H; exact H
          clear H
          have H := H1
          clear H1
          replace H := Option.bind_eq_some_iff.mp H
          obtain ⟨⟨t149, t150⟩, A160, H⟩ := H
          replace H : (if t150 = 0 then (if t149 < a2 then (cornkeep1_RoomTurns.j1 kj6 a2 true a0_0 a0_1 a0_2) else (cornkeep1_RoomTurns.j1 kj6 a2 (decide (t149 > a1)) a0_0 a0_1 a0_2)) else (cornkeep1_RoomTurns.j1 kj6 a2 false a0_0 a0_1 a0_2)) = some r := H
          have A16 := Aside0.mk A160
          clear A160
          have HC17 := Aside0.mk H
          clear H
          have hcz18_0 : wc.cell? ⟨gb145, 0, none⟩ = some (.int .i64 a0_0) := (blk_cell BK145.out 0).trans rfl
          have hcz18_1 : wc.cell? ⟨gb145, 1, none⟩ = some (.int .i64 a0_1) := (blk_cell BK145.out 1).trans rfl
          have hcz18_2 : wc.cell? ⟨gb145, 2, none⟩ = some (.int .i64 a0_2) := (blk_cell BK145.out 2).trans rfl
          have hfz18_0 := blk_frozen BK145.out 0
          have hfz18_1 := blk_frozen BK145.out 1
          have hfz18_2 := blk_frozen BK145.out 2
          go_upto_region 7 with (first | ((with_reducible refine gate_callee (f := 42) rfl ?_); refine goesL_ (some 45) rfl rfl Try.func42 (by kernel_rfl) rfl #[.agg #[.int .i64 a0_0, .int .i64 a0_1, .int .i64 a0_2], .int .i64 a1, .int .i64 a2] rfl (by (try simp only [List.map_toArray, List.map_cons, List.map_nil]); first | done | rfl | (simp only [List.length_drop, List.length_take]; rfl)) ?_; (with_reducible refine (room_Shrink.calls kj6 a0_0 a0_1 a0_2 a1 a2 t149 t150 _ A16.out).mono ?_); rintro e w19 ⟨rfl, hb⟩; refine ⟨_, rfl, ?_⟩; have n0_ := Aside0.mk (blk_below (g := gb145) (o := .cells #[.int .i64 a0_0, .int .i64 a0_1, .int .i64 a0_2] 48 (0, 0)) (by (with_reducible repeat (first | refine blk_drewN ?_ _ | refine blk_drew ?_ | refine blk_alloc ?_ _)); exact BK145.out) hb); have n1_ := Aside0.mk (below_step (by repeat (first | (with_reducible first | exact HB.out | apply below_alloc | apply pw_below_drewN | apply below_drew1 | refine below_set ?_ GE145.out) | exact HB.out)) hb); clear BK145; clear HB; have BK145 := n0_; have HB := n1_; clear n0_ n1_; (try clear hb); (try clear hb2); (try clear hk); (try clear hi)))
          (try simp only [Act.put, List.setIfInBounds_toArray, List.set_cons_zero, List.set_cons_succ])
          go_cut [59] (fun v59 wc => ∃ (kq : Nat) (x59_16 : Bool), v59 = .bool x59_16 ∧ Aside0 (cornkeep1_RoomTurns.j1 kq a2 x59_16 a0_0 a0_1 a0_2 = some r) ∧ Aside0 (kq ≤ kj6) ∧ Aside0 (wc.heap[gb145]? = some (.cells #[.int .i64 a0_0, .int .i64 a0_1, .int .i64 a0_2] 48 (0, 0))) ∧ Aside0 (Below w.heap.size w wc))
          case first =>
            have H := HC17.out
            clear HC17
            by_cases c20 : t150 = 0
            · rw [if_pos c20] at H
              have c20b0 : (t150 == 0) = true := beq_iff_eq.mpr c20
              have c20b1 : (t150 != 0) = false := bne_eq_false_iff_eq.mpr c20
              clear c20
              (first | rw [c20b0] | (simp only [i64_w, i32_w]; rw [c20b0]) | skip)
              by_cases c21 : t149 < a2
              · rw [if_pos c21] at H
                have c21b0 : decide (t149 < a2) = true := decide_eq_true c21
                clear c21
                have H' := Aside0.mk H
                clear H
                go_wp2
                go_meet
                case rel => exact ⟨_, (true), (by first | rfl | (simp; done) | (simp [*]; done)), H', ⟨by have := HJ6.out; first | omega | exact Nat.le_refl _⟩, ⟨by (with_reducible repeat (first | refine blk_drewN ?_ _ | refine blk_drew ?_ | refine blk_alloc ?_ _)); exact BK145.out⟩, ⟨by repeat (first | (with_reducible first | exact HB.out | apply below_alloc | apply pw_below_drewN | apply below_drew1 | refine below_set ?_ GE145.out) | exact HB.out)⟩⟩
              · rw [if_neg c21] at H
                have c21b0 : decide (t149 < a2) = false := decide_eq_false c21
                clear c21
                have H' := Aside0.mk H
                clear H
                go_wp2
                go_meet
                case rel => exact ⟨_, (decide (t149 > a1)), (by first | rfl | (simp; done) | (simp [*]; done)), H', ⟨by have := HJ6.out; first | omega | exact Nat.le_refl _⟩, ⟨by (with_reducible repeat (first | refine blk_drewN ?_ _ | refine blk_drew ?_ | refine blk_alloc ?_ _)); exact BK145.out⟩, ⟨by repeat (first | (with_reducible first | exact HB.out | apply below_alloc | apply pw_below_drewN | apply below_drew1 | refine below_set ?_ GE145.out) | exact HB.out)⟩⟩
            · rw [if_neg c20] at H
              have c20b0 : (t150 == 0) = false := beq_eq_false_iff_ne.mpr c20
              have c20b1 : (t150 != 0) = true := bne_iff_ne.mpr c20
              (first | rw [c20b0] | (simp only [i64_w, i32_w]; rw [c20b0]) | skip)
              have H' := Aside0.mk H
              clear H
              go_wp2
              go_meet
              case rel => exact ⟨_, (false), (by first | rfl | (simp; done) | (simp [*]; done)), H', ⟨by have := HJ6.out; first | omega | exact Nat.le_refl _⟩, ⟨by (with_reducible repeat (first | refine blk_drewN ?_ _ | refine blk_drew ?_ | refine blk_alloc ?_ _)); exact BK145.out⟩, ⟨by repeat (first | (with_reducible first | exact HB.out | apply below_alloc | apply pw_below_drewN | apply below_drew1 | refine below_set ?_ GE145.out) | exact HB.out)⟩⟩
          case rest =>
            clear HC17
            try clear c1
            try clear p1
            try clear c2
            try clear p2
            try clear c4
            try clear c5
            try clear c12
            try clear c12b0
            try clear c12b1
            try clear c13
            try clear c13b0
            try clear c14
            try clear c14b0
            try clear c15
            try clear c20
            try clear c20b0
            try clear c20b1
            try clear c21
            try clear c21b0
            try clear hcz10_0
            try clear hcz10_1
            try clear hcz10_2
            try clear hcz18_0
            try clear hcz18_1
            try clear hcz18_2
            try clear hfz10_0
            try clear hfz10_1
            try clear hfz10_2
            try clear hfz18_0
            try clear hfz18_1
            try clear hfz18_2
            try clear p1
            try clear p2
            obtain ⟨kq, x59_16, rfl, HA, HJ16, BK145, HB⟩ := hcut
            cases kq with
            | zero => exact absurd HA.out (by simp [cornkeep1_RoomTurns.j1])
            | succ kj16 =>
              have H := HA.out
              clear HA
              simp only [cornkeep1_RoomTurns.j1] at H
              by_cases c22 : x59_16 = true
              · subst c22
                have H1 : (some false) = some r := by rw [if_pos rfl] at H; exact H
                clear H
                have H := H1
                clear H1
                obtain rfl := Option.some.inj H
                go_wp2
                go_ret
                exact ⟨by first | rfl | (simp [errW_none, errW_some] <;> rfl) | (simp [*, errW_none, errW_some] <;> rfl), by repeat (first | (with_reducible first | exact HB.out | apply below_alloc | apply pw_below_drewN | apply below_drew1 | refine below_set ?_ GE145.out) | exact HB.out)⟩
              · replace c22 := Bool.eq_false_iff.mpr c22
                subst c22
                have H1 : ((room_Grow.f kj16 a0_0 a0_1 a0_2 0 a2).bind fun bt151 => (if bt151.2 = 0 then ((room_Shrink.f kj16 a0_0 a0_1 a0_2 bt151.1 a2).bind fun bt153 => (if bt153.2 = 0 then (some (bt153.1 == bt151.1)) else (some false))) else (some true))) = some r := by rw [if_neg (show ¬ (false = true) by decide)] at H; exact H
                clear H
                have H := H1
                clear H1
                replace H := Option.bind_eq_some_iff.mp H
                obtain ⟨⟨t151, t152⟩, A230, H⟩ := H
                replace H : (if t152 = 0 then ((room_Shrink.f kj16 a0_0 a0_1 a0_2 t151 a2).bind fun bt153 => (if bt153.2 = 0 then (some (bt153.1 == t151)) else (some false))) else (some true)) = some r := H
                have A23 := Aside0.mk A230
                clear A230
                by_cases c24 : t152 = 0
                · rw [if_pos c24] at H
                  have c24b0 : (t152 == 0) = true := beq_iff_eq.mpr c24
                  have c24b1 : (t152 != 0) = false := bne_eq_false_iff_eq.mpr c24
                  clear c24
                  replace H := Option.bind_eq_some_iff.mp H
                  obtain ⟨⟨t153, t154⟩, A250, H⟩ := H
                  replace H : (if t154 = 0 then (some (t153 == t151)) else (some false)) = some r := H
                  have A25 := Aside0.mk A250
                  clear A250
                  by_cases c26 : t154 = 0
                  · rw [if_pos c26] at H
                    have c26b0 : (t154 == 0) = true := beq_iff_eq.mpr c26
                    have c26b1 : (t154 != 0) = false := bne_eq_false_iff_eq.mpr c26
                    clear c26
                    obtain rfl := Option.some.inj H
                    have hcz27_0 : wc.cell? ⟨gb145, 0, none⟩ = some (.int .i64 a0_0) := (blk_cell BK145.out 0).trans rfl
                    have hcz27_1 : wc.cell? ⟨gb145, 1, none⟩ = some (.int .i64 a0_1) := (blk_cell BK145.out 1).trans rfl
                    have hcz27_2 : wc.cell? ⟨gb145, 2, none⟩ = some (.int .i64 a0_2) := (blk_cell BK145.out 2).trans rfl
                    have hfz27_0 := blk_frozen BK145.out 0
                    have hfz27_1 := blk_frozen BK145.out 1
                    have hfz27_2 := blk_frozen BK145.out 2
                    go_wp2_with (first | ((with_reducible refine gate_callee (f := 40) rfl ?_); refine goesL_ (some 63) rfl rfl Try.func40 (by kernel_rfl) rfl #[.agg #[.int .i64 a0_0, .int .i64 a0_1, .int .i64 a0_2], .int .i64 0, .int .i64 a2] rfl (by (try simp only [List.map_toArray, List.map_cons, List.map_nil]); first | done | rfl | (simp only [List.length_drop, List.length_take]; rfl)) ?_; (with_reducible refine (room_Grow.calls kj16 a0_0 a0_1 a0_2 0 a2 t151 t152 _ A23.out).mono ?_); rintro e w28 ⟨rfl, hb⟩; refine ⟨_, rfl, ?_⟩; have n0_ := Aside0.mk (blk_below (g := gb145) (o := .cells #[.int .i64 a0_0, .int .i64 a0_1, .int .i64 a0_2] 48 (0, 0)) (by (with_reducible repeat (first | refine blk_drewN ?_ _ | refine blk_drew ?_ | refine blk_alloc ?_ _)); exact BK145.out) hb); have n1_ := Aside0.mk (below_step (by repeat (first | (with_reducible first | exact HB.out | apply below_alloc | apply pw_below_drewN | apply below_drew1 | refine below_set ?_ GE145.out) | exact HB.out)) hb); clear BK145; clear HB; have BK145 := n0_; have HB := n1_; clear n0_ n1_; (try clear hb); (try clear hb2); (try clear hk); (try clear hi); have hcz29_0 : w28.cell? ⟨gb145, 0, none⟩ = some (.int .i64 a0_0) := (blk_cell BK145.out 0).trans rfl; have hcz29_1 : w28.cell? ⟨gb145, 1, none⟩ = some (.int .i64 a0_1) := (blk_cell BK145.out 1).trans rfl; have hcz29_2 : w28.cell? ⟨gb145, 2, none⟩ = some (.int .i64 a0_2) := (blk_cell BK145.out 2).trans rfl; have hfz29_0 := blk_frozen BK145.out 0; have hfz29_1 := blk_frozen BK145.out 1; have hfz29_2 := blk_frozen BK145.out 2) | ((with_reducible refine gate_callee (f := 42) rfl ?_); refine goesL_ (some 72) rfl rfl Try.func42 (by kernel_rfl) rfl #[.agg #[.int .i64 a0_0, .int .i64 a0_1, .int .i64 a0_2], .int .i64 t151, .int .i64 a2] rfl (by (try simp only [List.map_toArray, List.map_cons, List.map_nil]); first | done | rfl | (simp only [List.length_drop, List.length_take]; rfl)) ?_; (with_reducible refine (room_Shrink.calls kj16 a0_0 a0_1 a0_2 t151 a2 t153 t154 _ A25.out).mono ?_); rintro e w30 ⟨rfl, hb⟩; refine ⟨_, rfl, ?_⟩; have n0_ := Aside0.mk (blk_below (g := gb145) (o := .cells #[.int .i64 a0_0, .int .i64 a0_1, .int .i64 a0_2] 48 (0, 0)) (by (with_reducible repeat (first | refine blk_drewN ?_ _ | refine blk_drew ?_ | refine blk_alloc ?_ _)); exact BK145.out) hb); have n1_ := Aside0.mk (below_step (by repeat (first | (with_reducible first | exact HB.out | apply below_alloc | apply pw_below_drewN | apply below_drew1 | refine below_set ?_ GE145.out) | exact HB.out)) hb); clear BK145; clear HB; have BK145 := n0_; have HB := n1_; clear n0_ n1_; (try clear hb); (try clear hb2); (try clear hk); (try clear hi)))
                    go_ret
                    exact ⟨by first | rfl | (simp [errW_none, errW_some] <;> rfl) | (simp [*, errW_none, errW_some] <;> rfl), by repeat (first | (with_reducible first | exact HB.out | apply below_alloc | apply pw_below_drewN | apply below_drew1 | refine below_set ?_ GE145.out) | exact HB.out)⟩
                  · rw [if_neg c26] at H
                    have c26b0 : (t154 == 0) = false := beq_eq_false_iff_ne.mpr c26
                    have c26b1 : (t154 != 0) = true := bne_iff_ne.mpr c26
                    obtain rfl := Option.some.inj H
                    have hcz31_0 : wc.cell? ⟨gb145, 0, none⟩ = some (.int .i64 a0_0) := (blk_cell BK145.out 0).trans rfl
                    have hcz31_1 : wc.cell? ⟨gb145, 1, none⟩ = some (.int .i64 a0_1) := (blk_cell BK145.out 1).trans rfl
                    have hcz31_2 : wc.cell? ⟨gb145, 2, none⟩ = some (.int .i64 a0_2) := (blk_cell BK145.out 2).trans rfl
                    have hfz31_0 := blk_frozen BK145.out 0
                    have hfz31_1 := blk_frozen BK145.out 1
                    have hfz31_2 := blk_frozen BK145.out 2
                    go_wp2_with (first | ((with_reducible refine gate_callee (f := 40) rfl ?_); refine goesL_ (some 63) rfl rfl Try.func40 (by kernel_rfl) rfl #[.agg #[.int .i64 a0_0, .int .i64 a0_1, .int .i64 a0_2], .int .i64 0, .int .i64 a2] rfl (by (try simp only [List.map_toArray, List.map_cons, List.map_nil]); first | done | rfl | (simp only [List.length_drop, List.length_take]; rfl)) ?_; (with_reducible refine (room_Grow.calls kj16 a0_0 a0_1 a0_2 0 a2 t151 t152 _ A23.out).mono ?_); rintro e w32 ⟨rfl, hb⟩; refine ⟨_, rfl, ?_⟩; have n0_ := Aside0.mk (blk_below (g := gb145) (o := .cells #[.int .i64 a0_0, .int .i64 a0_1, .int .i64 a0_2] 48 (0, 0)) (by (with_reducible repeat (first | refine blk_drewN ?_ _ | refine blk_drew ?_ | refine blk_alloc ?_ _)); exact BK145.out) hb); have n1_ := Aside0.mk (below_step (by repeat (first | (with_reducible first | exact HB.out | apply below_alloc | apply pw_below_drewN | apply below_drew1 | refine below_set ?_ GE145.out) | exact HB.out)) hb); clear BK145; clear HB; have BK145 := n0_; have HB := n1_; clear n0_ n1_; (try clear hb); (try clear hb2); (try clear hk); (try clear hi); have hcz33_0 : w32.cell? ⟨gb145, 0, none⟩ = some (.int .i64 a0_0) := (blk_cell BK145.out 0).trans rfl; have hcz33_1 : w32.cell? ⟨gb145, 1, none⟩ = some (.int .i64 a0_1) := (blk_cell BK145.out 1).trans rfl; have hcz33_2 : w32.cell? ⟨gb145, 2, none⟩ = some (.int .i64 a0_2) := (blk_cell BK145.out 2).trans rfl; have hfz33_0 := blk_frozen BK145.out 0; have hfz33_1 := blk_frozen BK145.out 1; have hfz33_2 := blk_frozen BK145.out 2) | ((with_reducible refine gate_callee (f := 42) rfl ?_); refine goesL_ (some 72) rfl rfl Try.func42 (by kernel_rfl) rfl #[.agg #[.int .i64 a0_0, .int .i64 a0_1, .int .i64 a0_2], .int .i64 t151, .int .i64 a2] rfl (by (try simp only [List.map_toArray, List.map_cons, List.map_nil]); first | done | rfl | (simp only [List.length_drop, List.length_take]; rfl)) ?_; (with_reducible refine (room_Shrink.calls kj16 a0_0 a0_1 a0_2 t151 a2 t153 t154 _ A25.out).mono ?_); rintro e w34 ⟨rfl, hb⟩; refine ⟨_, rfl, ?_⟩; have n0_ := Aside0.mk (blk_below (g := gb145) (o := .cells #[.int .i64 a0_0, .int .i64 a0_1, .int .i64 a0_2] 48 (0, 0)) (by (with_reducible repeat (first | refine blk_drewN ?_ _ | refine blk_drew ?_ | refine blk_alloc ?_ _)); exact BK145.out) hb); have n1_ := Aside0.mk (below_step (by repeat (first | (with_reducible first | exact HB.out | apply below_alloc | apply pw_below_drewN | apply below_drew1 | refine below_set ?_ GE145.out) | exact HB.out)) hb); clear BK145; clear HB; have BK145 := n0_; have HB := n1_; clear n0_ n1_; (try clear hb); (try clear hb2); (try clear hk); (try clear hi)))
                    go_ret
                    exact ⟨by first | rfl | (simp [errW_none, errW_some] <;> rfl) | (simp [*, errW_none, errW_some] <;> rfl), by repeat (first | (with_reducible first | exact HB.out | apply below_alloc | apply pw_below_drewN | apply below_drew1 | refine below_set ?_ GE145.out) | exact HB.out)⟩
                · rw [if_neg c24] at H
                  have c24b0 : (t152 == 0) = false := beq_eq_false_iff_ne.mpr c24
                  have c24b1 : (t152 != 0) = true := bne_iff_ne.mpr c24
                  obtain rfl := Option.some.inj H
                  have hcz35_0 : wc.cell? ⟨gb145, 0, none⟩ = some (.int .i64 a0_0) := (blk_cell BK145.out 0).trans rfl
                  have hcz35_1 : wc.cell? ⟨gb145, 1, none⟩ = some (.int .i64 a0_1) := (blk_cell BK145.out 1).trans rfl
                  have hcz35_2 : wc.cell? ⟨gb145, 2, none⟩ = some (.int .i64 a0_2) := (blk_cell BK145.out 2).trans rfl
                  have hfz35_0 := blk_frozen BK145.out 0
                  have hfz35_1 := blk_frozen BK145.out 1
                  have hfz35_2 := blk_frozen BK145.out 2
                  go_wp2_with (first | ((with_reducible refine gate_callee (f := 40) rfl ?_); refine goesL_ (some 63) rfl rfl Try.func40 (by kernel_rfl) rfl #[.agg #[.int .i64 a0_0, .int .i64 a0_1, .int .i64 a0_2], .int .i64 0, .int .i64 a2] rfl (by (try simp only [List.map_toArray, List.map_cons, List.map_nil]); first | done | rfl | (simp only [List.length_drop, List.length_take]; rfl)) ?_; (with_reducible refine (room_Grow.calls kj16 a0_0 a0_1 a0_2 0 a2 t151 t152 _ A23.out).mono ?_); rintro e w36 ⟨rfl, hb⟩; refine ⟨_, rfl, ?_⟩; have n0_ := Aside0.mk (blk_below (g := gb145) (o := .cells #[.int .i64 a0_0, .int .i64 a0_1, .int .i64 a0_2] 48 (0, 0)) (by (with_reducible repeat (first | refine blk_drewN ?_ _ | refine blk_drew ?_ | refine blk_alloc ?_ _)); exact BK145.out) hb); have n1_ := Aside0.mk (below_step (by repeat (first | (with_reducible first | exact HB.out | apply below_alloc | apply pw_below_drewN | apply below_drew1 | refine below_set ?_ GE145.out) | exact HB.out)) hb); clear BK145; clear HB; have BK145 := n0_; have HB := n1_; clear n0_ n1_; (try clear hb); (try clear hb2); (try clear hk); (try clear hi)))
                  go_ret
                  exact ⟨by first | rfl | (simp [errW_none, errW_some] <;> rfl) | (simp [*, errW_none, errW_some] <;> rfl), by repeat (first | (with_reducible first | exact HB.out | apply below_alloc | apply pw_below_drewN | apply below_drew1 | refine below_set ?_ GE145.out) | exact HB.out)⟩
  · replace c5 := Bool.eq_false_iff.mpr c5
    subst c5
    have H1 : (some false) = some r := by rw [if_neg (show ¬ (false = true) by decide)] at H; exact H
    clear H
    have H := H1
    clear H1
    obtain rfl := Option.some.inj H
    go_enter Try.func12, Try.ntmps12
    go_wp2_with (first | ((with_reducible refine gate_dst (N := 3) rfl ?_); refine box_event ?hg (N := 3) ?hd (cs := #[.int .i64 a0_0, .int .i64 a0_1, .int .i64 a0_2]) (t := 48) ?hr ?_; (case hd => rfl); (case hg => rfl); (case hr => first | (go_simp; done) | (go_simp; rfl)); intro gb145 hg w37 hbox hb; have n0_ := Aside0.mk (below_step (by repeat (first | (with_reducible first | exact HB.out | apply below_alloc | apply pw_below_drewN | apply below_drew1) | exact HB.out)) hb); have n1_ := Aside0.mk (hbox); have n2_ := Aside0.mk ((by rw [hg]; exact (below_size (by repeat (first | (with_reducible first | exact HB.out | apply below_alloc | apply pw_below_drewN | apply below_drew1) | exact HB.out))) : w.heap.size ≤ gb145)); have n3_ := Aside0.mk ((by rw [hg]; exact (below_size (by repeat (first | (with_reducible first | exact HB.out | apply below_alloc | apply pw_below_drewN | apply below_drew1) | exact HB.out))) : w.heap.size ≤ gb145)); clear HB; have HB := n0_; have BK145 := n1_; have GW145 := n2_; have GE145 := n3_; clear n0_ n1_ n2_ n3_; clear hb hbox hg) | ((with_reducible refine gate_callee (f := 44) rfl ?_); refine goesL_ (some 12) rfl rfl Try.func44 (by kernel_rfl) rfl #[] rfl (by (try simp only [List.map_toArray, List.map_cons, List.map_nil]); first | done | rfl | (simp only [List.length_drop, List.length_take]; rfl)) ?_; (with_reducible refine (cornkeep1_awakeRoom.calls k  false _ A4.out).mono ?_); rintro e w38 ⟨rfl, hb⟩; refine ⟨_, rfl, ?_⟩; have n0_ := Aside0.mk (blk_below (g := gb145) (o := .cells #[.int .i64 a0_0, .int .i64 a0_1, .int .i64 a0_2] 48 (0, 0)) (by (with_reducible repeat (first | refine blk_drewN ?_ _ | refine blk_drew ?_ | refine blk_alloc ?_ _)); exact BK145.out) hb); have n1_ := Aside0.mk (below_step (by repeat (first | (with_reducible first | exact HB.out | apply below_alloc | apply pw_below_drewN | apply below_drew1 | refine below_set ?_ GE145.out) | exact HB.out)) hb); clear BK145; clear HB; have BK145 := n0_; have HB := n1_; clear n0_ n1_; (try clear hb); (try clear hb2); (try clear hk); (try clear hi)))
    go_ret
    exact ⟨by first | rfl | (simp [errW_none, errW_some] <;> rfl) | (simp [*, errW_none, errW_some] <;> rfl), by repeat (first | (with_reducible first | exact HB.out | apply below_alloc | apply pw_below_drewN | apply below_drew1 | refine below_set ?_ GE145.out) | exact HB.out)⟩

end Go.Proofs.Ytancgipidbojkaa.PRoomTurns
