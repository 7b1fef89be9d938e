/- cuts: the walk. -/
import Derived.Test.YtghdeoeajbnfkaaWTwo
import Derived.Deep.RegionHeld3
import Derived.Deep.DeepCutAuto
import Derived.StillTailTactics
namespace Go.Proofs.Ytghdeoeajbnfkaa.WSl
open Go.RowKit Go.Proofs.YtghdeoeajbnfkaaW.PrintWords Go.Proofs.YtghdeoeajbnfkaaW.PrintLast Go.Proofs.YtghdeoeajbnfkaaW.PrintMore Go.Proofs.Ytghdeoeajbnfkaa.WMem
attribute [local go_sem] max2_int min2_int max_two min_two
set_option linter.unusedSimpArgs false
set_option linter.unusedVariables false

/-- While cuts are made. -/
structure KMid (w1 wr : World) (mm : Nat → Nat) (vo va : Value) (cs : List Cu) : Prop where
  below : Below w1.heap.size w1 wr
  ok : ∀ x ∈ cs, x.ok
  out : Kd.R slK 22 wr w1.heap.size (fun k => w1.heap.size ≤ k) vo (cs.map (slOf mm))
  at_ : Kd.R cuK 47 wr w1.heap.size (fun k => w1.heap.size ≤ k) va cs

/-- A round begins to grow the rows; and ends. -/
theorem KMid.two {w1 wr u2 : World} {mm : Nat → Nat} {vo va : Value} {cs : List Cu} {cb : Array Value} (h : KMid w1 wr mm vo va cs) (hb : u2.heap[wr.heap.size]? = some (.cells cb 47)) (hB : Below wr.heap.size wr u2) : Two w1 u2 wr.heap.size cb vo va (cs.map (slOf mm)) cs :=
  ⟨h.below.trans (hB.mono h.below.size), hb, Kd.R_below h.out hB, Kd.R_mono (Kd.R_below (Kd.R_bound h.at_) hB) (fun k hk => ⟨hk.1, by have := hk.2.2.1; omega⟩)⟩
theorem KMid.next {w1 wr wz : World} {mm : Nat → Nat} {vo va vo' va' : Value} {cs : List Cu} {x : Cu} {B : Nat} {cb : Array Value} (h : KMid w1 wr mm vo va cs) (hx : x.ok) (h2 : Two w1 wz B cb vo' va' (cs.map (slOf mm) ++ [slOf mm x]) (cs ++ [x])) : KMid w1 wz mm vo' va' (cs ++ [x]) :=
  ⟨h2.below, fun y hy => by
    rcases List.mem_append.1 hy with hy | hy
    · exact h.ok y hy
    · rw [List.mem_singleton.1 hy]; exact hx, by rw [List.map_append]; exact h2.o, Kd.R_mono h2.a (fun k hk => hk.1)⟩

theorem mod_in (x : Int) (d : Nat) (hd : 0 < d) : ∃ y : Int, Int.tmod x d = y ∧ -(d : Int) < y ∧ y < d := by
  refine ⟨_, rfl, ?_, ?_⟩
  · have := Int.lt_tmod_of_pos x (show (0 : Int) < d by omega)
    omega
  · exact Int.tmod_lt_of_pos x (by omega)
theorem mod_up (y : Int) (d : Nat) (h : -(d : Int) < y) (hd : 0 < d) : ∃ m : Nat, m < d ∧ Int.tmod (y + d) d = m := by
  refine ⟨(Int.tmod (y + d) d).toNat, ?_, ?_⟩ <;>
  · rw [Int.tmod_eq_emod_of_nonneg (by omega)]
    have h1 := Int.emod_nonneg (y + d) (show (d : Int) ≠ 0 by omega)
    have h2 := Int.emod_lt_of_pos (y + d) (show (0 : Int) < d by omega)
    omega

theorem cu_ok {a b c : Nat} (h0 : a < 3) (h1 : b < 61) (h2 : c < 61 - b) : (Cu.mk a b (b + c)).ok := ⟨h0, Nat.le_add_right _ _, by show b + c ≤ 60; omega⟩

/-- The box of a cut, behind the last store. -/
theorem box_set {x y z : Value} {t : TypeId} (w u : World) (hb : u.heap[w.heap.size]? = some (.cells #[x, y, z] t)) (hB : Below w.heap.size w u) (v : Value) :
    (u.drew.setCell ⟨w.heap.size, 2, none⟩ v).heap[w.heap.size]? = some (.cells #[x, y, v] t) ∧ Below w.heap.size w (u.drew.setCell ⟨w.heap.size, 2, none⟩ v) := by
  refine ⟨?_, hB.drew.setCell (p := ⟨w.heap.size, 2, none⟩) (Nat.le_refl _) _⟩
  have := heap_setCell_self u.drew ⟨w.heap.size, 2, none⟩ v #[x, y, z] t (0, 0) hb
  rw [this]
  rfl

set_option maxHeartbeats 8000000 in
set_option maxRecDepth 100000 in
theorem cuts (LA : Option Addr) (ln lc : Nat) (T : Nat → Int × Int × Int) (OA : Option Addr) (on oc : Nat) (os : List Int) (w : World)
    (hl : (LA = none ∧ ln = 0 ∧ lc = 0) ∨ ∃ x, LA = some x ∧ ln ≤ lc ∧ ∀ i, i < ln → w.cell? (x.add (i * 3)) = some (.int .i64 (T i).1) ∧ w.cell? (x.add (i * 3 + 1)) = some (.int .i64 (T i).2.1) ∧ w.cell? (x.add (i * 3 + 2)) = some (.int .i64 (T i).2.2))
    (hln : ln ≤ lc ∧ lc ≤ 9223372036854775807) (ho : ReadsInt w .u8 OA on os) (hon : on ≤ 9223372036854775807) :
    Calls Try.prog 12 #[.slice LA ln lc, .slice OA on oc] w fun e w' => ∃ (vo va : Value) (cs : List Cu) (g : Nat) (mm : Nat → Nat), e = .returned (.tuple #[vo, va]) ∧ Mems w w' g mm ∧ cs.length ≤ 12 ∧ (∀ x ∈ cs, x.ok) ∧ (∀ i k, i < 3 → vo.ownBlock = some k → k ≠ mm i) ∧
      Kd.R slK 22 w' w.heap.size (fun k => w.heap.size ≤ k) vo (cs.map (slOf mm)) ∧ Kd.R cuK 47 w' w.heap.size (fun k => w.heap.size ≤ k) va cs := by
  obtain ⟨ms, hms, hmz, hmk⟩ := makeU8 60 (by omega)
  have HMZ := Aside0.mk hmz
  have hmk' : ∀ u : World, (Instr.makeSlice 22 (.int .i64 60) (.int .i64 60)).run Try.prog u = .ok (.slice (some ⟨u.heap.size, 0, none⟩) 60 60) (u.alloc (.cells ms 5)) := hmk
  have HL := Aside0.mk hl
  have HO := Aside0.mk ho
  clear hmk hms hmz hl ho
  obtain ⟨M, hM⟩ : ∃ M, M = min ln 12 := ⟨_, rfl⟩
  have hm1 : (if (12 : Int) < (ln : Int) then (12 : Int) else (ln : Int)) = (M : Int) := by split <;> omega
  have hm2 : (if 12 < ln then (12 : Int) else (ln : Int)) = (M : Int) := by split <;> omega
  have hM2 : M ≤ 12 := by omega
  have hM3 : M ≤ ln := by omega
  have hcutM : ∀ W : World, (Instr.slice 41 (.slice LA ln lc) none (some (.int .i64 M)) none).run Try.prog W = .ok (.slice LA M lc) W := fun W => by
    obtain ⟨i0, hi, hz0, hz1, hz2⟩ := info_parts infoCu
    have := cut_to (P := Try.prog) 41 47 .i64 Try.underlying41 hi LA ln lc (M : Int) (by omega) (by omega) hln.1 W
    simpa using this
  clear hM
  go_enter Try.func12, Try.ntmps12
  go_wp2_with fail
  go_cut [6] (fun v6 wc => ∃ (g : Nat) (mm : Nat → Nat), v6 = .slice (some ⟨g, 0, none⟩) 3 3 ∧ Aside0 (Mems w wc g mm))
  case first =>
    go_region
    all_goals
      go_wp2_with fail
      go_meet
      exact ⟨_, _, rfl, ⟨(mems_of w ms HMZ.out _ _ _ (by omega) (by omega) (by omega) (by omega) (by omega) (by omega)).drew⟩⟩
  case rest =>
    obtain ⟨g, mm, rfl, HM0⟩ := hcut
    clear hmk' HMZ
    go_wp2_with fail
    go_loopw [8, 9, 21] (fun _ _ i wr => ∃ k : Nat, k ≤ 3 ∧ i = .int .i64 k ∧ Aside0 (Mems w wr g mm)) (fun _ _ i _ => 3 - (intOf i).toNat)
    case atStart => exact ⟨0, by omega, rfl, HM0⟩
    case round =>
      obtain ⟨k, hk, rfl, HD⟩ := hrel
      by_cases hlt : k < 3
      · have hcell := HD.out.hdr k hlt
        generalize hb : mm k = mk at hcell
        have HB := Lib.hid hb
        clear hb
        go_wp2_with fail
        go_loopw [9, 27] (fun _ i wr => ∃ j : Nat, j ≤ 60 ∧ i = .int .i64 j ∧ Aside0 (Mems w wr g mm)) (fun _ i _ => 60 - (intOf i).toNat)
        case atStart => exact ⟨0, by omega, rfl, HD⟩
        case round =>
          obtain ⟨j, hj, rfl, HD2⟩ := hrel
          by_cases hlt2 : j < 60
          · by_cases h0 : 0 < on
            · obtain ⟨y, hy, hf⟩ := HD2.out.mem k hlt j hlt2
              have hO2 := HO.out.below (HD2.out.below.mono (Nat.le_refl _))
              obtain ⟨ad, hA, hcx⟩ := hO2.at_ ((j % on : Nat) : Int) (by omega) (by have := Nat.mod_lt j h0; omega)
              subst hA
              rw [Int.toNat_natCast] at hcx
              have hrem : Int.tmod (j : Int) (on : Int) = ((j % on : Nat) : Int) := by rw [Int.tmod_eq_emod_of_nonneg (by omega)]; rfl
              have hml := Nat.mod_lt j h0
              have HX := Aside0.mk (HD2.out.set k j (rd os ((j % on : Nat) : Int)) hlt hlt2)
              rw [HB.out] at hy hf HX
              generalize rd os ((j % on : Nat) : Int) = x at hcx HX
              generalize j % on = q at *
              have hdd : decide ((0 : Int) < (on : Int)) = true := decide_eq_true (by omega)
              clear hO2
              go_wp2
              go_roundw
              case rel => exact ⟨j + 1, by omega, by go_num, HX⟩
              case measure => simp [intOf]; omega
            · have hdd : on = 0 := by omega
              subst hdd
              go_wp2
              go_roundw
              case rel => exact ⟨j + 1, by omega, by go_num, HD2⟩
              case measure => simp [intOf]; omega
          · go_wp2
            go_roundw
            case rel => exact ⟨k + 1, by omega, by go_num, HD2⟩
            case measure => simp [intOf]; omega
      · obtain ⟨w1, hw1⟩ : ∃ w1, w1 = wr := ⟨_, rfl⟩
        subst hw1
        go_wp2_with fail
        clear hlt hk
        generalize k = k3 at *
        go_loopw [10, 11, 13, 14, 51] (fun vo va _ _ i wr => ∃ (k : Nat) (cs : List Cu), k ≤ M ∧ cs.length = k ∧ i = .int .i64 k ∧ Aside0 (KMid w1 wr mm vo va cs)) (fun _ _ _ _ i _ => M - (intOf i).toNat)
        case atStart => exact ⟨0, [], by omega, rfl, rfl, ⟨Below.refl _ _, fun x hx => by simp at hx, Kd.R_nil _ _ _ _ _, Kd.R_nil _ _ _ _ _⟩⟩
        case round =>
          obtain ⟨k, cs, hk, hcl, rfl, HK⟩ := hrel
          by_cases hlt : k < M
          · rcases HL.out with ⟨_, h0, _⟩ | ⟨ad, hA, _, hc⟩
            · exfalso; omega
            · obtain ⟨q0, q1, q2⟩ := hc k (by omega)
              subst hA
              have c0 : wr.cell? (ad.add (k * 3)) = some (.int .i64 (T k).1) := (((HD.out.below.trans (HK.out.below.mono HD.out.below.size)).cell (cell_lt q0))).trans q0
              have c1 : wr.cell? ⟨(ad.add (k * 3)).block, (ad.add (k * 3)).off + 1, none⟩ = some (.int .i64 (T k).2.1) := by rw [← add_field _ _ 1 (by omega)]; exact (((HD.out.below.trans (HK.out.below.mono HD.out.below.size)).cell (cell_lt q1))).trans q1
              have c2 : wr.cell? ⟨(ad.add (k * 3)).block, (ad.add (k * 3)).off + 2, none⟩ = some (.int .i64 (T k).2.2) := by rw [← add_field _ _ 2 (by omega)]; exact (((HD.out.below.trans (HK.out.below.mono HD.out.below.size)).cell (cell_lt q2))).trans q2
              generalize (T k).1 = x0 at c0
              generalize (T k).2.1 = x1 at c1
              generalize (T k).2.2 = x2 at c2
              obtain ⟨y0, hy0, hy0a, hy0b⟩ := mod_in x0 3 (by omega)
              obtain ⟨m0, hm0, hmm0⟩ := mod_up y0 3 hy0a (by omega)
              obtain ⟨y1, hy1, hy1a, hy1b⟩ := mod_in x1 61 (by omega)
              obtain ⟨m1, hm1', hmm1⟩ := mod_up y1 61 hy1a (by omega)
              have e0 : (wrap64 (x0.tmod 3 + 3)).tmod 3 = (m0 : Int) := by
                have h1 : x0.tmod 3 = y0 := hy0
                have h2 : (y0 + 3).tmod 3 = (m0 : Int) := hmm0
                rw [h1, show wrap64 (y0 + 3) = y0 + 3 by unfold wrap64; omega, h2]
              have e1 : (wrap64 (x1.tmod 61 + 61)).tmod 61 = (m1 : Int) := by
                have h1 : x1.tmod 61 = y1 := hy1
                have h2 : (y1 + 61).tmod 61 = (m1 : Int) := hmm1
                rw [h1, show wrap64 (y1 + 61) = y1 + 61 by unfold wrap64; omega, h2]
              obtain ⟨d, hd⟩ : ∃ d : Nat, d = 61 - m1 := ⟨_, rfl⟩
              obtain ⟨y2, hy2, hy2a, hy2b⟩ := mod_in x2 d (by omega)
              obtain ⟨m2, hm2', hmm2⟩ := mod_up y2 d hy2a (by omega)
              obtain ⟨t2, ht2⟩ : ∃ t2, t2 = m1 + m2 := ⟨_, rfl⟩
              have hx : (Cu.mk m0 m1 t2).ok := by rw [ht2]; exact cu_ok hm0 hm1' (by rw [← hd]; exact hm2')
              have e2 : IntKind.i64.wrap (61 - (m1 : Int)) = (d : Int) := by rw [IntWalk.i64_in _ ⟨by omega, by omega⟩]; omega
              have e3 : IntKind.i64.wrap (y2 + 61) = y2 + 61 := IntWalk.i64_in _ ⟨by omega, by omega⟩
              have e4 : IntKind.i64.wrap (y2 + 61 - (m1 : Int)) = y2 + (d : Int) := by rw [IntWalk.i64_in _ ⟨by omega, by omega⟩]; omega
              have e5 : IntKind.i64.wrap ((m1 : Int) + (m2 : Int)) = (t2 : Int) := by rw [IntWalk.i64_in _ ⟨by omega, by omega⟩]; omega
              have hd0 : ((d : Int) == 0) = false := by
                have : (d : Int) ≠ 0 := by omega
                simpa using this
              have hd1 : (d : Int) ≠ 0 := by omega
              have hd2 : ¬ d = 0 := by omega
              have ht61 : t2 < 61 := by omega
              clear hc q0 q1 q2 hd ht2
              go_upto_region 19 with (fail)
              have hnb := blk_new wr (.cells #[.int .i64 m0, .int .i64 m1, .int .i64 x2] 47)
              have hX0 : (wr.alloc (.cells #[.int .i64 m0, .int .i64 m1, .int .i64 x2] 47)).cell? ⟨wr.heap.size, 0, none⟩ = some (.int .i64 m0) := by rw [blk_cell hnb]; rfl
              have hX1 : (wr.alloc (.cells #[.int .i64 m0, .int .i64 m1, .int .i64 x2] 47)).cell? ⟨wr.heap.size, 1, none⟩ = some (.int .i64 m1) := by rw [blk_cell hnb]; rfl
              have hX2 : (wr.alloc (.cells #[.int .i64 m0, .int .i64 m1, .int .i64 x2] 47)).cell? ⟨wr.heap.size, 2, none⟩ = some (.int .i64 x2) := by rw [blk_cell hnb]; rfl
              have hXf : (wr.alloc (.cells #[.int .i64 m0, .int .i64 m1, .int .i64 x2] 47)).frozen? ⟨wr.heap.size, 2, none⟩ = false := blk_frozen hnb 2
              have hBX : Below wr.heap.size wr (wr.alloc (.cells #[.int .i64 m0, .int .i64 m1, .int .i64 x2] 47)) := below_alloc (Below.refl _ _) _
              generalize wr.alloc (.cells #[.int .i64 m0, .int .i64 m1, .int .i64 x2] 47) = u at *
              have HBS := Aside0.mk (box_set wr u hnb hBX (.int .i64 (t2 : Int)))
              clear e0 e1 hy0 hmm0 hy1 hmm1 hnb hBX
              go_still_tail 18, (by kernel_rfl)
              change wpList _ _ _ _ _ u.drew
              have zz0 : u.drew.cell? ⟨wr.heap.size, 0, none⟩ = some (.int .i64 m0) := hX0
              have zz1 : u.drew.cell? ⟨wr.heap.size, 1, none⟩ = some (.int .i64 m1) := hX1
              have zz2 : u.drew.cell? ⟨wr.heap.size, 2, none⟩ = some (.int .i64 x2) := hX2
              have zzf : u.drew.frozen? ⟨wr.heap.size, 2, none⟩ = false := hXf
              generalize u.drew = u1 at *
              clear hX0 hX1 hX2 hXf
              have HX := Lib.hid hx
              have hroom : ∃ r : Nat, (Cu.mk m0 m1 t2).room = r ∧ (m0 = 2 ∧ r = 60 ∨ m0 ≠ 2 ∧ r = t2) := by
                refine ⟨_, rfl, ?_⟩
                unfold Cu.room
                by_cases h2 : m0 = 2
                · exact .inl ⟨h2, if_pos h2⟩
                · exact .inr ⟨h2, if_neg h2⟩
              obtain ⟨r, hr, hr2⟩ := hroom
              have hsv := slOf_val mm (Cu.mk m0 m1 t2)
              have hsub := sub_cut ⟨mm m0, 0, none⟩ (Cu.mk m0 m1 t2) hx
              rw [hr] at hsv hsub
              dsimp only at hsv hsub
              generalize (if r = m1 then some ⟨mm m0, 0, none⟩ else some ((⟨mm m0, 0, none⟩ : Addr).add m1)) = SA at hsv hsub
              generalize hsn : t2 - m1 = sn at hsv hsub
              generalize hsc : r - m1 = sc at hsv hsub
              clear hx hr hsn hsc
              have HSV := Aside0.mk hsv
              clear hsv
              rcases hr2 with ⟨h2, rfl⟩ | ⟨h2, rfl⟩
              · subst h2
                rw [show ((60 : Nat) : Int) = 60 from rfl] at hsub
                go_upto_region 23 with (fail)
                have hbs := HBS.out
                have HT0 := Aside0.mk (HK.out.two hbs.1 hbs.2)
                have HLN1 := Lib.hid (show (cs.map (slOf mm)).length ≤ 1000000 by rw [List.length_map]; omega)
                have HLN2 := Lib.hid (show cs.length ≤ 1000000 by omega)
                clear hbs HBS
                have hS0 := HT0.out.cells HD.out hm0
                generalize u1.setCell ⟨wr.heap.size, 2, none⟩ (.int .i64 (t2 : Int)) = u2 at *
                go_region_held3 (fun w' => w'.cell? ⟨wr.heap.size, 0, none⟩ = some (.int .i64 (2 : Int)) ∧ w'.cell? ⟨wr.heap.size, 1, none⟩ = some (.int .i64 (m1 : Int)) ∧ w'.cell? ⟨wr.heap.size, 2, none⟩ = some (.int .i64 (t2 : Int)) ∧ w'.cell? ⟨g, 2, none⟩ = some (.slice (some ⟨mm 2, 0, none⟩) 60 60)) (first | exact hS0 | exact HT2.out.cells HD.out hm0 | exact (HT2.out.drew).cells HD.out hm0 | exact (HT2.out.alloc _).cells HD.out hm0 | exact ((HT2.out.alloc _).drew).cells HD.out hm0 | exact ((HT2.out.alloc _).alloc _).cells HD.out hm0 | exact (((HT2.out.alloc _).alloc _).drew).cells HD.out hm0 | exact HT1.out.cells HD.out hm0 | exact (HT1.out.drew).cells HD.out hm0 | exact (HT1.out.alloc _).cells HD.out hm0 | exact ((HT1.out.alloc _).drew).cells HD.out hm0 | exact ((HT1.out.alloc _).alloc _).cells HD.out hm0 | exact (((HT1.out.alloc _).alloc _).drew).cells HD.out hm0 | exact HT0.out.cells HD.out hm0 | exact (HT0.out.drew).cells HD.out hm0 | exact (HT0.out.alloc _).cells HD.out hm0 | exact ((HT0.out.alloc _).drew).cells HD.out hm0 | exact ((HT0.out.alloc _).alloc _).cells HD.out hm0 | exact (((HT0.out.alloc _).alloc _).drew).cells HD.out hm0) (first | (refine step_o (w1 := w1) (B := wr.heap.size) (cb := #[.int .i64 (2 : Int), .int .i64 (m1 : Int), .int .i64 (t2 : Int)]) (va := u11) (xs := cs.map (slOf mm)) (ys := cs) rfl (.tmp 90) (.tmp 102) rfl u10 _ (slOf mm ⟨2, m1, t2⟩) (.slice SA sn sc) HSV.out rfl rfl (blk_new _ _) ((HT0.out.alloc _).drew) HLN1.out ?_; intro v1 W1 hT hk; have HT1 := Aside0.mk hT; have HK1 := Aside0.mk hk; clear hT hk) | (refine step_o (w1 := w1) (B := wr.heap.size) (cb := #[.int .i64 (2 : Int), .int .i64 (m1 : Int), .int .i64 (t2 : Int)]) (va := u11) (xs := cs.map (slOf mm)) (ys := cs) rfl (.tmp 90) (.tmp 102) rfl u10 _ (slOf mm ⟨2, m1, t2⟩) (.slice SA sn sc) HSV.out rfl rfl (two_first _ _ _) (((HT0.out.alloc _).alloc _).drew) HLN1.out ?_; intro v1 W1 hT hk; have HT1 := Aside0.mk hT; have HK1 := Aside0.mk hk; clear hT hk) | (refine step_o (w1 := w1) (B := wr.heap.size) (cb := #[.int .i64 (2 : Int), .int .i64 (m1 : Int), .int .i64 (t2 : Int)]) (va := u11) (xs := cs.map (slOf mm)) (ys := cs) rfl (.tmp 90) (.tmp 102) rfl u10 _ (slOf mm ⟨2, m1, t2⟩) (.slice SA sn sc) HSV.out rfl rfl (two_new _ _ _) (((HT0.out.alloc _).alloc _).drew) HLN1.out ?_; intro v1 W1 hT hk; have HT1 := Aside0.mk hT; have HK1 := Aside0.mk hk; clear hT hk) | (refine step_o (w1 := w1) (B := wr.heap.size) (cb := #[.int .i64 (2 : Int), .int .i64 (m1 : Int), .int .i64 (t2 : Int)]) (va := v2) (xs := cs.map (slOf mm)) (ys := (cs ++ [⟨2, m1, t2⟩])) rfl (.tmp 90) (.tmp 102) rfl u10 _ (slOf mm ⟨2, m1, t2⟩) (.slice SA sn sc) HSV.out rfl rfl (HK2.out _ _ (two_first _ _ _)) HT2.out HLN1.out ?_; intro v1 W1 hT hk; have HT1 := Aside0.mk hT; have HK1 := Aside0.mk hk; clear hT hk) | (refine step_o (w1 := w1) (B := wr.heap.size) (cb := #[.int .i64 (2 : Int), .int .i64 (m1 : Int), .int .i64 (t2 : Int)]) (va := v2) (xs := cs.map (slOf mm)) (ys := (cs ++ [⟨2, m1, t2⟩])) rfl (.tmp 90) (.tmp 102) rfl u10 _ (slOf mm ⟨2, m1, t2⟩) (.slice SA sn sc) HSV.out rfl rfl (HK2.out _ _ (two_new _ _ _)) HT2.out HLN1.out ?_; intro v1 W1 hT hk; have HT1 := Aside0.mk hT; have HK1 := Aside0.mk hk; clear hT hk) | (refine step_o (w1 := w1) (B := wr.heap.size) (cb := #[.int .i64 (2 : Int), .int .i64 (m1 : Int), .int .i64 (t2 : Int)]) (va := v2) (xs := cs.map (slOf mm)) (ys := (cs ++ [⟨2, m1, t2⟩])) rfl (.tmp 90) (.tmp 102) rfl u10 _ (slOf mm ⟨2, m1, t2⟩) (.slice SA sn sc) HSV.out rfl rfl (blk_new _ _) ((HT2.out.alloc _)) HLN1.out ?_; intro v1 W1 hT hk; have HT1 := Aside0.mk hT; have HK1 := Aside0.mk hk; clear hT hk) | (refine step_a (w1 := w1) (B := wr.heap.size) (cb := #[.int .i64 (2 : Int), .int .i64 (m1 : Int), .int .i64 (t2 : Int)]) (vo := u10) (xs := (cs.map (slOf mm))) (ys := cs) rfl (.tmp 104) (.tmp 106) rfl u11 _ ⟨2, m1, t2⟩ rfl rfl (blk_new _ _) ((HT0.out.alloc _).drew) HLN2.out ?_; intro v2 W2 hT hk; have HT2 := Aside0.mk hT; have HK2 := Aside0.mk hk; clear hT hk) | (refine step_a (w1 := w1) (B := wr.heap.size) (cb := #[.int .i64 (2 : Int), .int .i64 (m1 : Int), .int .i64 (t2 : Int)]) (vo := u10) (xs := (cs.map (slOf mm))) (ys := cs) rfl (.tmp 104) (.tmp 106) rfl u11 _ ⟨2, m1, t2⟩ rfl rfl (two_first _ _ _) (((HT0.out.alloc _).alloc _).drew) HLN2.out ?_; intro v2 W2 hT hk; have HT2 := Aside0.mk hT; have HK2 := Aside0.mk hk; clear hT hk) | (refine step_a (w1 := w1) (B := wr.heap.size) (cb := #[.int .i64 (2 : Int), .int .i64 (m1 : Int), .int .i64 (t2 : Int)]) (vo := u10) (xs := (cs.map (slOf mm))) (ys := cs) rfl (.tmp 104) (.tmp 106) rfl u11 _ ⟨2, m1, t2⟩ rfl rfl (two_new _ _ _) (((HT0.out.alloc _).alloc _).drew) HLN2.out ?_; intro v2 W2 hT hk; have HT2 := Aside0.mk hT; have HK2 := Aside0.mk hk; clear hT hk) | (refine step_a (w1 := w1) (B := wr.heap.size) (cb := #[.int .i64 (2 : Int), .int .i64 (m1 : Int), .int .i64 (t2 : Int)]) (vo := v1) (xs := (cs.map (slOf mm) ++ [slOf mm ⟨2, m1, t2⟩])) (ys := cs) rfl (.tmp 104) (.tmp 106) rfl u11 _ ⟨2, m1, t2⟩ rfl rfl (HK1.out _ _ (two_first _ _ _)) (HT1.out) HLN2.out ?_; intro v2 W2 hT hk; have HT2 := Aside0.mk hT; have HK2 := Aside0.mk hk; clear hT hk) | (refine step_a (w1 := w1) (B := wr.heap.size) (cb := #[.int .i64 (2 : Int), .int .i64 (m1 : Int), .int .i64 (t2 : Int)]) (vo := v1) (xs := (cs.map (slOf mm) ++ [slOf mm ⟨2, m1, t2⟩])) (ys := cs) rfl (.tmp 104) (.tmp 106) rfl u11 _ ⟨2, m1, t2⟩ rfl rfl (HK1.out _ _ (two_new _ _ _)) (HT1.out) HLN2.out ?_; intro v2 W2 hT hk; have HT2 := Aside0.mk hT; have HK2 := Aside0.mk hk; clear hT hk) | (refine step_a (w1 := w1) (B := wr.heap.size) (cb := #[.int .i64 (2 : Int), .int .i64 (m1 : Int), .int .i64 (t2 : Int)]) (vo := v1) (xs := (cs.map (slOf mm) ++ [slOf mm ⟨2, m1, t2⟩])) (ys := cs) rfl (.tmp 104) (.tmp 106) rfl u11 _ ⟨2, m1, t2⟩ rfl rfl (blk_new _ _) ((HT1.out.alloc _)) HLN2.out ?_; intro v2 W2 hT hk; have HT2 := Aside0.mk hT; have HK2 := Aside0.mk hk; clear hT hk))
                all_goals
                  first | have HN := Aside0.mk (HK.out.next HX.out HT2.out) | have HN := Aside0.mk (HK.out.next HX.out HT1.out)
                  go_wp2_with fail
                  go_roundw
                  case rel => exact ⟨k + 1, _, by omega, by rw [List.length_append, List.length_singleton, hcl], by go_num, HN⟩
                  case measure => simp [intOf]; omega
              · have h01 : m0 = 0 ∨ m0 = 1 := by omega
                rcases h01 with rfl | rfl
                · go_upto_region 23 with (fail)
                  have hbs := HBS.out
                  have HT0 := Aside0.mk (HK.out.two hbs.1 hbs.2)
                  have HLN1 := Lib.hid (show (cs.map (slOf mm)).length ≤ 1000000 by rw [List.length_map]; omega)
                  have HLN2 := Lib.hid (show cs.length ≤ 1000000 by omega)
                  clear hbs HBS
                  have hS0 := HT0.out.cells HD.out hm0
                  generalize u1.setCell ⟨wr.heap.size, 2, none⟩ (.int .i64 (r : Int)) = u2 at *
                  go_region_held3 (fun w' => w'.cell? ⟨wr.heap.size, 0, none⟩ = some (.int .i64 (0 : Int)) ∧ w'.cell? ⟨wr.heap.size, 1, none⟩ = some (.int .i64 (m1 : Int)) ∧ w'.cell? ⟨wr.heap.size, 2, none⟩ = some (.int .i64 (r : Int)) ∧ w'.cell? ⟨g, 0, none⟩ = some (.slice (some ⟨mm 0, 0, none⟩) 60 60)) (first | exact hS0 | exact HT2.out.cells HD.out hm0 | exact (HT2.out.drew).cells HD.out hm0 | exact (HT2.out.alloc _).cells HD.out hm0 | exact ((HT2.out.alloc _).drew).cells HD.out hm0 | exact ((HT2.out.alloc _).alloc _).cells HD.out hm0 | exact (((HT2.out.alloc _).alloc _).drew).cells HD.out hm0 | exact HT1.out.cells HD.out hm0 | exact (HT1.out.drew).cells HD.out hm0 | exact (HT1.out.alloc _).cells HD.out hm0 | exact ((HT1.out.alloc _).drew).cells HD.out hm0 | exact ((HT1.out.alloc _).alloc _).cells HD.out hm0 | exact (((HT1.out.alloc _).alloc _).drew).cells HD.out hm0 | exact HT0.out.cells HD.out hm0 | exact (HT0.out.drew).cells HD.out hm0 | exact (HT0.out.alloc _).cells HD.out hm0 | exact ((HT0.out.alloc _).drew).cells HD.out hm0 | exact ((HT0.out.alloc _).alloc _).cells HD.out hm0 | exact (((HT0.out.alloc _).alloc _).drew).cells HD.out hm0) (first | (refine step_o (w1 := w1) (B := wr.heap.size) (cb := #[.int .i64 (0 : Int), .int .i64 (m1 : Int), .int .i64 (r : Int)]) (va := u11) (xs := cs.map (slOf mm)) (ys := cs) rfl (.tmp 90) (.tmp 102) rfl u10 _ (slOf mm ⟨0, m1, r⟩) (.slice SA sn sc) HSV.out rfl rfl (blk_new _ _) ((HT0.out.alloc _).drew) HLN1.out ?_; intro v1 W1 hT hk; have HT1 := Aside0.mk hT; have HK1 := Aside0.mk hk; clear hT hk) | (refine step_o (w1 := w1) (B := wr.heap.size) (cb := #[.int .i64 (0 : Int), .int .i64 (m1 : Int), .int .i64 (r : Int)]) (va := u11) (xs := cs.map (slOf mm)) (ys := cs) rfl (.tmp 90) (.tmp 102) rfl u10 _ (slOf mm ⟨0, m1, r⟩) (.slice SA sn sc) HSV.out rfl rfl (two_first _ _ _) (((HT0.out.alloc _).alloc _).drew) HLN1.out ?_; intro v1 W1 hT hk; have HT1 := Aside0.mk hT; have HK1 := Aside0.mk hk; clear hT hk) | (refine step_o (w1 := w1) (B := wr.heap.size) (cb := #[.int .i64 (0 : Int), .int .i64 (m1 : Int), .int .i64 (r : Int)]) (va := u11) (xs := cs.map (slOf mm)) (ys := cs) rfl (.tmp 90) (.tmp 102) rfl u10 _ (slOf mm ⟨0, m1, r⟩) (.slice SA sn sc) HSV.out rfl rfl (two_new _ _ _) (((HT0.out.alloc _).alloc _).drew) HLN1.out ?_; intro v1 W1 hT hk; have HT1 := Aside0.mk hT; have HK1 := Aside0.mk hk; clear hT hk) | (refine step_o (w1 := w1) (B := wr.heap.size) (cb := #[.int .i64 (0 : Int), .int .i64 (m1 : Int), .int .i64 (r : Int)]) (va := v2) (xs := cs.map (slOf mm)) (ys := (cs ++ [⟨0, m1, r⟩])) rfl (.tmp 90) (.tmp 102) rfl u10 _ (slOf mm ⟨0, m1, r⟩) (.slice SA sn sc) HSV.out rfl rfl (HK2.out _ _ (two_first _ _ _)) HT2.out HLN1.out ?_; intro v1 W1 hT hk; have HT1 := Aside0.mk hT; have HK1 := Aside0.mk hk; clear hT hk) | (refine step_o (w1 := w1) (B := wr.heap.size) (cb := #[.int .i64 (0 : Int), .int .i64 (m1 : Int), .int .i64 (r : Int)]) (va := v2) (xs := cs.map (slOf mm)) (ys := (cs ++ [⟨0, m1, r⟩])) rfl (.tmp 90) (.tmp 102) rfl u10 _ (slOf mm ⟨0, m1, r⟩) (.slice SA sn sc) HSV.out rfl rfl (HK2.out _ _ (two_new _ _ _)) HT2.out HLN1.out ?_; intro v1 W1 hT hk; have HT1 := Aside0.mk hT; have HK1 := Aside0.mk hk; clear hT hk) | (refine step_o (w1 := w1) (B := wr.heap.size) (cb := #[.int .i64 (0 : Int), .int .i64 (m1 : Int), .int .i64 (r : Int)]) (va := v2) (xs := cs.map (slOf mm)) (ys := (cs ++ [⟨0, m1, r⟩])) rfl (.tmp 90) (.tmp 102) rfl u10 _ (slOf mm ⟨0, m1, r⟩) (.slice SA sn sc) HSV.out rfl rfl (blk_new _ _) ((HT2.out.alloc _)) HLN1.out ?_; intro v1 W1 hT hk; have HT1 := Aside0.mk hT; have HK1 := Aside0.mk hk; clear hT hk) | (refine step_a (w1 := w1) (B := wr.heap.size) (cb := #[.int .i64 (0 : Int), .int .i64 (m1 : Int), .int .i64 (r : Int)]) (vo := u10) (xs := (cs.map (slOf mm))) (ys := cs) rfl (.tmp 104) (.tmp 106) rfl u11 _ ⟨0, m1, r⟩ rfl rfl (blk_new _ _) ((HT0.out.alloc _).drew) HLN2.out ?_; intro v2 W2 hT hk; have HT2 := Aside0.mk hT; have HK2 := Aside0.mk hk; clear hT hk) | (refine step_a (w1 := w1) (B := wr.heap.size) (cb := #[.int .i64 (0 : Int), .int .i64 (m1 : Int), .int .i64 (r : Int)]) (vo := u10) (xs := (cs.map (slOf mm))) (ys := cs) rfl (.tmp 104) (.tmp 106) rfl u11 _ ⟨0, m1, r⟩ rfl rfl (two_first _ _ _) (((HT0.out.alloc _).alloc _).drew) HLN2.out ?_; intro v2 W2 hT hk; have HT2 := Aside0.mk hT; have HK2 := Aside0.mk hk; clear hT hk) | (refine step_a (w1 := w1) (B := wr.heap.size) (cb := #[.int .i64 (0 : Int), .int .i64 (m1 : Int), .int .i64 (r : Int)]) (vo := u10) (xs := (cs.map (slOf mm))) (ys := cs) rfl (.tmp 104) (.tmp 106) rfl u11 _ ⟨0, m1, r⟩ rfl rfl (two_new _ _ _) (((HT0.out.alloc _).alloc _).drew) HLN2.out ?_; intro v2 W2 hT hk; have HT2 := Aside0.mk hT; have HK2 := Aside0.mk hk; clear hT hk) | (refine step_a (w1 := w1) (B := wr.heap.size) (cb := #[.int .i64 (0 : Int), .int .i64 (m1 : Int), .int .i64 (r : Int)]) (vo := v1) (xs := (cs.map (slOf mm) ++ [slOf mm ⟨0, m1, r⟩])) (ys := cs) rfl (.tmp 104) (.tmp 106) rfl u11 _ ⟨0, m1, r⟩ rfl rfl (HK1.out _ _ (two_first _ _ _)) (HT1.out) HLN2.out ?_; intro v2 W2 hT hk; have HT2 := Aside0.mk hT; have HK2 := Aside0.mk hk; clear hT hk) | (refine step_a (w1 := w1) (B := wr.heap.size) (cb := #[.int .i64 (0 : Int), .int .i64 (m1 : Int), .int .i64 (r : Int)]) (vo := v1) (xs := (cs.map (slOf mm) ++ [slOf mm ⟨0, m1, r⟩])) (ys := cs) rfl (.tmp 104) (.tmp 106) rfl u11 _ ⟨0, m1, r⟩ rfl rfl (HK1.out _ _ (two_new _ _ _)) (HT1.out) HLN2.out ?_; intro v2 W2 hT hk; have HT2 := Aside0.mk hT; have HK2 := Aside0.mk hk; clear hT hk) | (refine step_a (w1 := w1) (B := wr.heap.size) (cb := #[.int .i64 (0 : Int), .int .i64 (m1 : Int), .int .i64 (r : Int)]) (vo := v1) (xs := (cs.map (slOf mm) ++ [slOf mm ⟨0, m1, r⟩])) (ys := cs) rfl (.tmp 104) (.tmp 106) rfl u11 _ ⟨0, m1, r⟩ rfl rfl (blk_new _ _) ((HT1.out.alloc _)) HLN2.out ?_; intro v2 W2 hT hk; have HT2 := Aside0.mk hT; have HK2 := Aside0.mk hk; clear hT hk))
                  all_goals
                    first | have HN := Aside0.mk (HK.out.next HX.out HT2.out) | have HN := Aside0.mk (HK.out.next HX.out HT1.out)
                    go_wp2_with fail
                    go_roundw
                    case rel => exact ⟨k + 1, _, by omega, by rw [List.length_append, List.length_singleton, hcl], by go_num, HN⟩
                    case measure => simp [intOf]; omega
                · go_upto_region 23 with (fail)
                  have hbs := HBS.out
                  have HT0 := Aside0.mk (HK.out.two hbs.1 hbs.2)
                  have HLN1 := Lib.hid (show (cs.map (slOf mm)).length ≤ 1000000 by rw [List.length_map]; omega)
                  have HLN2 := Lib.hid (show cs.length ≤ 1000000 by omega)
                  clear hbs HBS
                  have hS0 := HT0.out.cells HD.out hm0
                  generalize u1.setCell ⟨wr.heap.size, 2, none⟩ (.int .i64 (r : Int)) = u2 at *
                  go_region_held3 (fun w' => w'.cell? ⟨wr.heap.size, 0, none⟩ = some (.int .i64 (1 : Int)) ∧ w'.cell? ⟨wr.heap.size, 1, none⟩ = some (.int .i64 (m1 : Int)) ∧ w'.cell? ⟨wr.heap.size, 2, none⟩ = some (.int .i64 (r : Int)) ∧ w'.cell? ⟨g, 1, none⟩ = some (.slice (some ⟨mm 1, 0, none⟩) 60 60)) (first | exact hS0 | exact HT2.out.cells HD.out hm0 | exact (HT2.out.drew).cells HD.out hm0 | exact (HT2.out.alloc _).cells HD.out hm0 | exact ((HT2.out.alloc _).drew).cells HD.out hm0 | exact ((HT2.out.alloc _).alloc _).cells HD.out hm0 | exact (((HT2.out.alloc _).alloc _).drew).cells HD.out hm0 | exact HT1.out.cells HD.out hm0 | exact (HT1.out.drew).cells HD.out hm0 | exact (HT1.out.alloc _).cells HD.out hm0 | exact ((HT1.out.alloc _).drew).cells HD.out hm0 | exact ((HT1.out.alloc _).alloc _).cells HD.out hm0 | exact (((HT1.out.alloc _).alloc _).drew).cells HD.out hm0 | exact HT0.out.cells HD.out hm0 | exact (HT0.out.drew).cells HD.out hm0 | exact (HT0.out.alloc _).cells HD.out hm0 | exact ((HT0.out.alloc _).drew).cells HD.out hm0 | exact ((HT0.out.alloc _).alloc _).cells HD.out hm0 | exact (((HT0.out.alloc _).alloc _).drew).cells HD.out hm0) (first | (refine step_o (w1 := w1) (B := wr.heap.size) (cb := #[.int .i64 (1 : Int), .int .i64 (m1 : Int), .int .i64 (r : Int)]) (va := u11) (xs := cs.map (slOf mm)) (ys := cs) rfl (.tmp 90) (.tmp 102) rfl u10 _ (slOf mm ⟨1, m1, r⟩) (.slice SA sn sc) HSV.out rfl rfl (blk_new _ _) ((HT0.out.alloc _).drew) HLN1.out ?_; intro v1 W1 hT hk; have HT1 := Aside0.mk hT; have HK1 := Aside0.mk hk; clear hT hk) | (refine step_o (w1 := w1) (B := wr.heap.size) (cb := #[.int .i64 (1 : Int), .int .i64 (m1 : Int), .int .i64 (r : Int)]) (va := u11) (xs := cs.map (slOf mm)) (ys := cs) rfl (.tmp 90) (.tmp 102) rfl u10 _ (slOf mm ⟨1, m1, r⟩) (.slice SA sn sc) HSV.out rfl rfl (two_first _ _ _) (((HT0.out.alloc _).alloc _).drew) HLN1.out ?_; intro v1 W1 hT hk; have HT1 := Aside0.mk hT; have HK1 := Aside0.mk hk; clear hT hk) | (refine step_o (w1 := w1) (B := wr.heap.size) (cb := #[.int .i64 (1 : Int), .int .i64 (m1 : Int), .int .i64 (r : Int)]) (va := u11) (xs := cs.map (slOf mm)) (ys := cs) rfl (.tmp 90) (.tmp 102) rfl u10 _ (slOf mm ⟨1, m1, r⟩) (.slice SA sn sc) HSV.out rfl rfl (two_new _ _ _) (((HT0.out.alloc _).alloc _).drew) HLN1.out ?_; intro v1 W1 hT hk; have HT1 := Aside0.mk hT; have HK1 := Aside0.mk hk; clear hT hk) | (refine step_o (w1 := w1) (B := wr.heap.size) (cb := #[.int .i64 (1 : Int), .int .i64 (m1 : Int), .int .i64 (r : Int)]) (va := v2) (xs := cs.map (slOf mm)) (ys := (cs ++ [⟨1, m1, r⟩])) rfl (.tmp 90) (.tmp 102) rfl u10 _ (slOf mm ⟨1, m1, r⟩) (.slice SA sn sc) HSV.out rfl rfl (HK2.out _ _ (two_first _ _ _)) HT2.out HLN1.out ?_; intro v1 W1 hT hk; have HT1 := Aside0.mk hT; have HK1 := Aside0.mk hk; clear hT hk) | (refine step_o (w1 := w1) (B := wr.heap.size) (cb := #[.int .i64 (1 : Int), .int .i64 (m1 : Int), .int .i64 (r : Int)]) (va := v2) (xs := cs.map (slOf mm)) (ys := (cs ++ [⟨1, m1, r⟩])) rfl (.tmp 90) (.tmp 102) rfl u10 _ (slOf mm ⟨1, m1, r⟩) (.slice SA sn sc) HSV.out rfl rfl (HK2.out _ _ (two_new _ _ _)) HT2.out HLN1.out ?_; intro v1 W1 hT hk; have HT1 := Aside0.mk hT; have HK1 := Aside0.mk hk; clear hT hk) | (refine step_o (w1 := w1) (B := wr.heap.size) (cb := #[.int .i64 (1 : Int), .int .i64 (m1 : Int), .int .i64 (r : Int)]) (va := v2) (xs := cs.map (slOf mm)) (ys := (cs ++ [⟨1, m1, r⟩])) rfl (.tmp 90) (.tmp 102) rfl u10 _ (slOf mm ⟨1, m1, r⟩) (.slice SA sn sc) HSV.out rfl rfl (blk_new _ _) ((HT2.out.alloc _)) HLN1.out ?_; intro v1 W1 hT hk; have HT1 := Aside0.mk hT; have HK1 := Aside0.mk hk; clear hT hk) | (refine step_a (w1 := w1) (B := wr.heap.size) (cb := #[.int .i64 (1 : Int), .int .i64 (m1 : Int), .int .i64 (r : Int)]) (vo := u10) (xs := (cs.map (slOf mm))) (ys := cs) rfl (.tmp 104) (.tmp 106) rfl u11 _ ⟨1, m1, r⟩ rfl rfl (blk_new _ _) ((HT0.out.alloc _).drew) HLN2.out ?_; intro v2 W2 hT hk; have HT2 := Aside0.mk hT; have HK2 := Aside0.mk hk; clear hT hk) | (refine step_a (w1 := w1) (B := wr.heap.size) (cb := #[.int .i64 (1 : Int), .int .i64 (m1 : Int), .int .i64 (r : Int)]) (vo := u10) (xs := (cs.map (slOf mm))) (ys := cs) rfl (.tmp 104) (.tmp 106) rfl u11 _ ⟨1, m1, r⟩ rfl rfl (two_first _ _ _) (((HT0.out.alloc _).alloc _).drew) HLN2.out ?_; intro v2 W2 hT hk; have HT2 := Aside0.mk hT; have HK2 := Aside0.mk hk; clear hT hk) | (refine step_a (w1 := w1) (B := wr.heap.size) (cb := #[.int .i64 (1 : Int), .int .i64 (m1 : Int), .int .i64 (r : Int)]) (vo := u10) (xs := (cs.map (slOf mm))) (ys := cs) rfl (.tmp 104) (.tmp 106) rfl u11 _ ⟨1, m1, r⟩ rfl rfl (two_new _ _ _) (((HT0.out.alloc _).alloc _).drew) HLN2.out ?_; intro v2 W2 hT hk; have HT2 := Aside0.mk hT; have HK2 := Aside0.mk hk; clear hT hk) | (refine step_a (w1 := w1) (B := wr.heap.size) (cb := #[.int .i64 (1 : Int), .int .i64 (m1 : Int), .int .i64 (r : Int)]) (vo := v1) (xs := (cs.map (slOf mm) ++ [slOf mm ⟨1, m1, r⟩])) (ys := cs) rfl (.tmp 104) (.tmp 106) rfl u11 _ ⟨1, m1, r⟩ rfl rfl (HK1.out _ _ (two_first _ _ _)) (HT1.out) HLN2.out ?_; intro v2 W2 hT hk; have HT2 := Aside0.mk hT; have HK2 := Aside0.mk hk; clear hT hk) | (refine step_a (w1 := w1) (B := wr.heap.size) (cb := #[.int .i64 (1 : Int), .int .i64 (m1 : Int), .int .i64 (r : Int)]) (vo := v1) (xs := (cs.map (slOf mm) ++ [slOf mm ⟨1, m1, r⟩])) (ys := cs) rfl (.tmp 104) (.tmp 106) rfl u11 _ ⟨1, m1, r⟩ rfl rfl (HK1.out _ _ (two_new _ _ _)) (HT1.out) HLN2.out ?_; intro v2 W2 hT hk; have HT2 := Aside0.mk hT; have HK2 := Aside0.mk hk; clear hT hk) | (refine step_a (w1 := w1) (B := wr.heap.size) (cb := #[.int .i64 (1 : Int), .int .i64 (m1 : Int), .int .i64 (r : Int)]) (vo := v1) (xs := (cs.map (slOf mm) ++ [slOf mm ⟨1, m1, r⟩])) (ys := cs) rfl (.tmp 104) (.tmp 106) rfl u11 _ ⟨1, m1, r⟩ rfl rfl (blk_new _ _) ((HT1.out.alloc _)) HLN2.out ?_; intro v2 W2 hT hk; have HT2 := Aside0.mk hT; have HK2 := Aside0.mk hk; clear hT hk))
                  all_goals
                    first | have HN := Aside0.mk (HK.out.next HX.out HT2.out) | have HN := Aside0.mk (HK.out.next HX.out HT1.out)
                    go_wp2_with fail
                    go_roundw
                    case rel => exact ⟨k + 1, _, by omega, by rw [List.length_append, List.length_singleton, hcl], by go_num, HN⟩
                    case measure => simp [intOf]; omega
          · have hw1 := HD.out.below.size
            have HZ := Aside0.mk (HD.out.later HK.out.below)
            have HZO := Aside0.mk (Kd.R_mono (Kd.R_lower HK.out.out hw1) (fun k hk => Nat.le_trans hw1 hk))
            have HZA := Aside0.mk (Kd.R_mono (Kd.R_lower HK.out.at_ hw1) (fun k hk => Nat.le_trans hw1 hk))
            have HOK := Aside0.mk HK.out.ok
            have HNE := Aside0.mk (fun (i k : Nat) (hi : i < 3) (hk : _ = some k) => (show k ≠ mm i by have h1 := HK.out.out.1 k hk; have h2 := (HD.out.new i hi).2.1; omega))
            have hcl2 : cs.length ≤ 12 := by omega
            go_wp2
            refine bodyPost_ret (results_tmp2 rfl _ _ _) rfl ?_
            exact ⟨_, _, cs, g, mm, rfl, HZ.out, hcl2, HOK.out, HNE.out, HZO.out, HZA.out⟩

end Go.Proofs.Ytghdeoeajbnfkaa.WSl
