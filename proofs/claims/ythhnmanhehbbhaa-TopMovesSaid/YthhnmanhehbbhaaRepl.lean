/- Policies, copies, and edits of octets: CheckPolicy, Grow, copied, fit, Replace. -/
import Derived.Test.YthhnmanhehbbhaaSlices
import Derived.Test.YthhnmanhehbbhaaGrow
import Derived.Deep.DeepCutAuto
import Derived.IntWalk
import Derived.Deep.RegionHeld3
import Derived.Deep.DrawnRows
namespace Go.Proofs.Ythhnmanhehbbhaa.Oct
open Go.RowKit Go.Proofs.YthhnmanhehbbhaaW.PrintWords Go.Proofs.YthhnmanhehbbhaaW.PrintLast Go.Proofs.YthhnmanhehbbhaaW.PrintMore Go.Proofs.Ythhnmanhehbbhaa.Book Go.Proofs.Ythhnmanhehbbhaa.Pure
set_option linter.unusedSimpArgs false
set_option linter.unusedVariables false

theorem checkPolicy (k s m : Int) (w : World) : Calls Try.prog 23 #[.agg #[.int .i64 k, .int .i64 s, .int .i64 m]] w fun e w' => e = .returned (.int .i64 (rgFault k s m)) ∧ Below w.heap.size w w' :=
  PRoomEdits.room_CheckPolicy.calls 5 k s m _ w (rg_check 5 (Nat.le_refl _) k s m)
theorem grow (k s m room need : Int) (w : World) : Calls Try.prog 28 #[.agg #[.int .i64 k, .int .i64 s, .int .i64 m], .int .i64 room, .int .i64 need] w fun e w' => e = .returned (.tuple #[.int .i64 (rgGrow k s m room need).1, .int .i64 (rgGrow k s m room need).2]) ∧ Below w.heap.size w w' :=
  PRoomEdits.room_Grow.calls 70 k s m room need _ _ w (rg_grow 70 (Nat.le_refl _) k s m room need)
theorem withinR (a lo hi : Int) (w : World) : Calls Try.prog 128 #[.int .i64 a, .int .i64 lo, .int .i64 hi] w fun e w' => e = .returned (.bool (decide (lo ≤ a ∧ a ≤ hi))) ∧ ∃ m, w' = w.drewN m := by
  refine (PRoomEdits.room_within.calls a lo hi _ w ?_).mono fun e w' ⟨he, hd⟩ => ⟨he, hd.out⟩
  unfold PRoomEdits.room_within.f
  by_cases h1 : lo ≤ a <;> by_cases h2 : a ≤ hi <;> simp [h1, h2]
/-- Grow, where nothing is at fault and it is not full. -/
theorem grow_ok (k s m : Int) (room need : Nat) (hf : rgFault k s m = 0) (h1 : room ≤ 100000) (h2 : need ≤ 100000) (h3 : need ≤ room ∨ (need : Int) ≤ m) : ∃ r : Nat, rgGrow k s m room need = (↑r, 0) ∧ need ≤ r ∧ room ≤ r ∧ r ≤ 100000 ∧ (need ≤ room → r = room) := by
  have h0 : (rgGrow k s m room need).2 = 0 := by
    unfold rgGrow
    rw [if_neg (by omega), if_neg (by omega)]
    split
    · rfl
    · rw [if_neg (by omega)]
  obtain ⟨a1, a2, _, _, _, _, a7, _⟩ := rg_grow_le k s m room need h0
  refine ⟨(rgGrow k s m room need).1.toNat, ?_, by omega, by omega, by omega, fun h => ?_⟩
  · rw [← h0, Int.toNat_of_nonneg (by omega)]
  · unfold rgGrow
    rw [if_neg (by omega), if_neg (by omega), if_pos (by omega)]
    simp

set_option maxHeartbeats 1000000 in
set_option maxRecDepth 100000 in
/-- copied: new memory with octets, some length and room. -/
theorem copied8 (A : Option Addr) (m c n r : Nat) (xs : List Int) (w : World) (hr : ReadsInt w .u8 A m xs) (hmn : m ≤ n) (hnr : n ≤ r) (hrr : r ≤ 281474976710656) :
    Calls Try.prog 129 #[.slice A m c, .int .i64 n, .int .i64 r] w fun e w' => e = .returned (.slice (some ⟨w.heap.size, 0, none⟩) n r) ∧ Row w' w.heap.size (xs ++ List.replicate (r - m) 0) ∧ Below w.heap.size w w' := by
  have hmk := makeU8 n r hnr hrr
  have HR := Aside0.mk hr
  have hlen := Lib.hid hr.1
  clear hr
  go_enter Try.func129, Try.ntmps129
  go_wp2_with (refine wpList_copy8 (o := ⟨some 13, _, _, _, _, _⟩) rfl (.tmp 11) (.tmp 12) rfl (some ⟨w.heap.size, 0, none⟩) A n r m c rfl rfl w.heap.size 0 (List.replicate r 0) xs (blk_new _ _) (by rw [hlen.out]; exact (Nat.min_eq_left hmn).symm) (fun _ => ⟨rfl, by rw [hlen.out]; exact HR.out.below (below_alloc (Below.refl _ _) _)⟩) (by rw [hlen.out]; simp; omega) ?_; intro w2 HG HU hz)
  go_ret
  refine ⟨rfl, ?_, Upd_below_of HU.out (below_alloc (Below.refl _ _) _) (by simp) (fun k hk => by omega)⟩
  have h := HG.out
  rw [hlen.out] at h
  simpa using h

set_option maxHeartbeats 1000000 in
set_option maxRecDepth 100000 in
theorem begins_ok (k s m : Int) (A B : Option Addr) (n c mo oc : Nat) (w : World) (hf : rgFault k s m = 0) (hc : c ≤ 100000) (hm : mo ≤ 100000) :
    Calls Try.prog 130 #[.agg #[.int .i64 k, .int .i64 s, .int .i64 m], .slice A n c, .slice B mo oc] w fun e w' => e = .returned (.int .i64 0) ∧ Below w.heap.size w w' := by
  have HF := Lib.hid hf
  have hd1 : decide (100000 < (c : Int)) = false := decide_eq_false (by omega)
  have hd2 : decide (100000 < (mo : Int)) = false := decide_eq_false (by omega)
  clear hf
  go_enter Try.func130, Try.ntmps130
  go_wp2_with (go_at_call 23; refine (checkPolicy k s m _).mono ?_; rintro e w1 ⟨rfl, hb1⟩; rw [HF.out]; have HB1 := Aside0.mk hb1; clear hb1)
  go_ret
  exact ⟨rfl, below_then (below_alloc (Below.refl _ _) _) (by simp) HB1.out⟩

set_option maxHeartbeats 1000000 in
set_option maxRecDepth 100000 in
theorem fit_in (k s m : Int) (ad : Addr) (l c n : Nat) (w : World) (hf : rgFault k s m = 0) (hc : c ≤ 100000) (hn : n ≤ c) :
    Calls Try.prog 131 #[.agg #[.int .i64 k, .int .i64 s, .int .i64 m], .slice (some ad) l c, .int .i64 n] w fun e w' => e = .returned (.tuple #[.slice (some ad) n c, .bool false, .int .i64 0]) ∧ Below w.heap.size w w' := by
  obtain ⟨r, hr, _, _, _, hrc⟩ := grow_ok k s m c n hf hc (by omega) (.inl hn)
  obtain rfl := hrc hn
  have HG := Lib.hid hr
  clear hr hrc hf
  go_enter Try.func131, Try.ntmps131
  go_wp2_with (go_at_call 28; refine (grow k s m _ _ _).mono ?_; rintro e w1 ⟨rfl, hb1⟩; rw [HG.out]; have HB1 := Aside0.mk hb1; clear hb1)
  go_ret3
  exact ⟨rfl, below_then (below_alloc (Below.refl _ _) _) (by simp) HB1.out⟩

set_option maxHeartbeats 1000000 in
set_option maxRecDepth 100000 in
theorem fit_moves (k s m : Int) (A : Option Addr) (l c n r : Nat) (xs : List Int) (w : World) (hr : ReadsInt w .u8 A l xs) (hlc : l ≤ c) (hG : rgGrow k s m c n = (↑r, 0)) (hn : c < n) (hnr : n ≤ r) (hrr : r ≤ 100000) :
    Calls Try.prog 131 #[.agg #[.int .i64 k, .int .i64 s, .int .i64 m], .slice A l c, .int .i64 n] w fun e w' => ∃ g, e = .returned (.tuple #[.slice (some ⟨g, 0, none⟩) n r, .bool true, .int .i64 0]) ∧ w.heap.size ≤ g ∧ Row w' g (xs ++ List.replicate (r - l) 0) ∧ Below w.heap.size w w' := by
  have HG := Lib.hid hG
  have HR := Aside0.mk hr
  clear hG hr
  go_enter Try.func131, Try.ntmps131
  go_wp2_with (first | (go_at_call 28; refine (grow k s m _ _ _).mono ?_; rintro e w1 ⟨rfl, hb1⟩; rw [HG.out]; have HB1 := Aside0.mk (below_then (below_alloc (Below.refl _ _) _) (by simp) hb1); clear hb1))
  refine (copied8 A l c n r xs _ (HR.out.below HB1.out) (by omega) hnr (by omega)).mono ?_
  rintro e w2 ⟨rfl, hrow, hb2⟩
  have HRow := Aside0.mk hrow
  have HB2 := Aside0.mk (below_then HB1.out HB1.out.size hb2)
  have hsz := Lib.hid HB1.out.size
  clear hrow hb2
  go_wp2_with fail
  go_ret3
  exact ⟨w1.heap.size, rfl, hsz.out, HRow.out, HB2.out⟩

theorem box_cells {w : World} {b : Nat} {k s m : Int} (h : w.heap[b]? = some (.cells #[.int .i64 k, .int .i64 s, .int .i64 m] 23)) : w.cell? ⟨b, 0, none⟩ = some (.int .i64 k) ∧ w.cell? ⟨b, 1, none⟩ = some (.int .i64 s) ∧ w.cell? ⟨b, 2, none⟩ = some (.int .i64 m) := by
  refine ⟨?_, ?_, ?_⟩ <;> rw [blk_cell h] <;> rfl
theorem box_later {w w1 : World} {k s m : Int} (h : Below (w.alloc (.cells #[.int .i64 k, .int .i64 s, .int .i64 m] 23)).heap.size (w.alloc (.cells #[.int .i64 k, .int .i64 s, .int .i64 m] 23)) w1) : w1.heap[w.heap.size]? = some (.cells #[.int .i64 k, .int .i64 s, .int .i64 m] 23) :=
  (h.block _ (by rw [alloc_size]; omega)).trans (blk_new w _)

theorem splice_two (ys os M R : List Int) (fr mo : Nat) (h1 : fr + mo ≤ ys.length) :
    (ys.take (fr + mo) ++ M ++ R).take fr ++ os ++ (ys.take (fr + mo) ++ M ++ R).drop (fr + mo) = ys.take fr ++ os ++ M ++ R := by
  have e1 : (ys.take (fr + mo)).length = fr + mo := by simp; omega
  have e2 : ∀ P R : List Int, P.length = fr + mo → (P ++ R).drop (fr + mo) = R := fun P R h => by rw [← h, List.drop_left]
  rw [List.append_assoc (ys.take (fr + mo)), List.take_append_of_le_length (by omega), List.take_take, Nat.min_eq_left (by omega), e2 _ _ e1]
  simp [List.append_assoc]

set_option maxHeartbeats 2000000 in
set_option maxRecDepth 100000 in
theorem replace_in (k s m : Int) (g l c fr te mo oc : Nat) (OA : Option Addr) (ys os : List Int) (w : World) (hf : rgFault k s m = 0) (hrow : Row w g ys) (hl : ys.length = c) (hlc : l ≤ c) (hc : c ≤ 100000) (h1 : fr ≤ te) (h2 : te ≤ l)
    (ho : ReadsInt w .u8 OA mo os) (hoc : OA = none → mo = 0 ∧ oc = 0) (hmo : mo ≤ 100000) (hn : l - (te - fr) + mo ≤ c) :
    Calls Try.prog 26 #[.agg #[.int .i64 k, .int .i64 s, .int .i64 m], .slice (some ⟨g, 0, none⟩) l c, .int .i64 fr, .int .i64 te, .slice OA mo oc] w fun e w' =>
      ∃ zs, e = .returned (.tuple #[.slice (some ⟨g, 0, none⟩) (l - (te - fr) + mo) c, .bool false, .int .i64 0]) ∧ Row w' g (ys.take fr ++ os ++ (ys.drop te).take (l - te) ++ zs) ∧ zs.length + (l - (te - fr) + mo) = c ∧ Upd (fun k => k = g) w w' := by
  obtain ⟨n, hne⟩ : ∃ n, n = l - (te - fr) + mo := ⟨_, rfl⟩
  rw [← hne] at hn ⊢
  have HF := Lib.hid hf
  have HR := Aside0.mk hrow
  have HL := Lib.hid hl
  have HO := Aside0.mk ho
  have HOC := Lib.hid hoc
  have hd1 : decide (te < fr) = false := decide_eq_false (by omega)
  have hd2 : decide (l < te) = false := decide_eq_false (by omega)
  have hd0 : decide ((fr : Int) < 0) = false := decide_eq_false (by omega)
  have hd3 : decide (100000 < (n : Int)) = false := decide_eq_false (by omega)
  have hnI : (l : Int) - ((te : Int) - (fr : Int)) + (mo : Int) = (n : Int) := by omega
  have hn9 : n ≤ 100000 := by omega
  have HNE := Lib.hid hne
  clear hf hrow hl ho hoc hne
  go_enter Try.func26, Try.ntmps26
  go_wp2_with fail
  refine (begins_ok k s m _ _ _ _ _ _ _ HF.out hc hmo).mono ?_
  rintro e w1 ⟨rfl, hb1⟩
  have HX1 := Aside0.mk (box_later hb1)
  have HB1 := Aside0.mk (below_then (below_alloc (Below.refl _ _) _) (by simp) hb1)
  obtain ⟨hx0, hx1, hx2⟩ := box_cells HX1.out
  clear hb1
  go_wp2_with fail
  refine (fit_in k s m _ l c n _ HF.out hc hn).mono ?_
  rintro e w2 ⟨rfl, hb2⟩
  have HB2 := Aside0.mk (below_then HB1.out HB1.out.size hb2)
  clear hb2 hx0 hx1 hx2
  go_wp2_with fail
  refine (clone8 OA mo oc os w2 (HO.out.below HB2.out) (by omega) HOC.out).mono ?_
  rintro e w3 ⟨PA, pc, rfl, hnew⟩
  have HP := Aside0.mk hnew
  have HB3 := Aside0.mk (below_then HB2.out HB2.out.size hnew.below)
  have hfm : fr + mo ≤ n := by have := HNE.out; omega
  have hrest : n - (fr + mo) = l - te := by have := HNE.out; omega
  have HRest := Lib.hid hrest
  obtain ⟨A1, hA1, eA1⟩ := sub_from (some ⟨g, 0, none⟩) n c (fr + mo) (↑fr + ↑mo) (by omega) hfm
  obtain ⟨A2, hA2, eA2⟩ := sub_from (some ⟨g, 0, none⟩) l c te ↑te rfl h2
  obtain ⟨A3, hA3, eA3⟩ := sub_from (some ⟨g, 0, none⟩) n c fr ↑fr rfl (by omega)
  have E1 := Lib.hid eA1
  have E2 := Lib.hid eA2
  have E3 := Lib.hid eA3
  clear hnew eA1 eA2 eA3 hrest
  go_wp2_with fail
  go_cut [] (fun wx => Aside0 (Row wx g (ys.take (fr + mo) ++ (ys.drop te).take (l - te) ++ ys.drop (fr + mo + (l - te)))) ∧ Aside0 (Upd (fun k => k = g) w3 wx))
  case first =>
    have hxl : ((ys.drop te).take (l - te)).length = l - te := by have := HL.out; simp; omega
    have HXL := Lib.hid hxl
    have hw9 : IntKind.i64.wrap ((fr : Int) + (mo : Int)) = (fr : Int) + (mo : Int) := IntWalk.i64_in _ (by omega)
    clear hxl
    go_region_held3 (fun _ => True) (trivial) ((refine step_copy8 rfl (.tmp 69) (.tmp 72) rfl A1 A2 (n - (fr + mo)) (c - (fr + mo)) (l - te) (c - te) (by rfl) (by rfl) g (fr + mo) ys ((ys.drop te).take (l - te)) (HR.out.below HB3.out).drew (by rw [HXL.out, HRest.out]; exact (Nat.min_self _).symm) (fun h0 => by rw [HXL.out] at h0 ⊢; exact ⟨(E1.out (by omega)).trans (by simp [add_zero']), by rw [E2.out (by omega), Option.map_some, add_zero']; exact Row.reads_at (HR.out.below HB3.out).drew te (l - te) (by have := HL.out; omega) (by have := HL.out; unfold maxLen; omega)⟩) (by rw [HXL.out]; have := HL.out; omega) ?_; intro w4 HG4 HU4 hz4))
    all_goals
      rw [HXL.out] at HG4
      go_wp2_with fail
      go_meet
      exact ⟨HG4, ⟨(Upd.of_below (below_drew (Below.refl _ _))).then HU4.out (fun k hk => .inl hk)⟩⟩
  case rest =>
    obtain ⟨HG4, HU4⟩ := hcut
    have hlos := Lib.hid (HO.out.1)
    have HPR := Aside0.mk (reads_upd HP.out.reads HU4.out (fun ad e _ => fun hk => by
      obtain ⟨g9, rfl, hy, _⟩ := HP.out.young ad e
      have := HR.out.lt
      have := HB2.out.size
      simp at hk; omega))
    generalize hys1 : ys.take (fr + mo) ++ (ys.drop te).take (l - te) ++ ys.drop (fr + mo + (l - te)) = ys1 at HG4
    have HY1 := Lib.hid hys1
    have hyl : ys1.length = c := by rw [← hys1]; have := HL.out; simp; omega
    have HYL := Lib.hid hyl
    clear hys1 hyl
    go_wp2_with ((with_reducible refine gate_builtin (b := .copy) (xs := #[.tmp 76, .tmp 77]) rfl ?_); refine wpList_copy8 rfl (.tmp 76) (.tmp 77) rfl A3 PA (n - fr) (c - fr) mo pc rfl rfl g fr ys1 os HG4.out (by rw [hlos.out]; exact (Nat.min_eq_left (by omega)).symm) (fun h0 => ⟨(E3.out (by rw [hlos.out] at h0; omega)).trans (by rw [Option.map_some, add_zero']), by rw [hlos.out]; exact HPR.out⟩) (by rw [hlos.out, HYL.out]; omega) ?_; intro w5 HG5 HU5 hz5)
    have HB5 : Aside0 (Upd (fun k => k = g) w w5) := ⟨((Upd.of_below HB3.out).then HU4.out (fun k hk => .inl hk)).then HU5.out (fun k hk => .inl hk)⟩
    have hys2 : ∃ zs, ys1.take fr ++ os ++ ys1.drop (fr + os.length) = ys.take fr ++ os ++ (ys.drop te).take (l - te) ++ zs ∧ zs.length + n = c := by
      refine ⟨ys.drop (fr + mo + (l - te)), ?_, ?_⟩
      · rw [← HY1.out, hlos.out]
        exact splice_two ys os _ _ fr mo (by have := HL.out; omega)
      · have := HL.out; have := HNE.out; simp; omega
    obtain ⟨zs, hz1, hz2⟩ := hys2
    rw [hz1] at HG5
    have hxn : (ys.take fr ++ os ++ (ys.drop te).take (l - te)).length = n := by have := HL.out; have := HNE.out; simp [hlos.out]; omega
    have HX := Lib.hid hxn
    have HZ := Lib.hid hz2
    clear hz1 hz2 hxn
    generalize hxs : ys.take fr ++ os ++ (ys.drop te).take (l - te) = xs at HG5 HX
    have HXS := Lib.hid hxs
    clear hxs HPR HY1 HYL HG4 HU4 HU5 hz5 hA1 hA2 hA3
    go_loopw [19] (fun i (wr : World) => ∃ (k : Nat) (zs : List Int), n ≤ k ∧ i = .int .i64 k ∧ Aside0 (Row wr g (xs ++ zs)) ∧ Aside0 (zs.length + n = c) ∧ Aside0 (Upd (fun k => k = g) w wr)) (fun i _ => l - (intOf i).toNat)
    case atStart => exact ⟨n, zs, Nat.le_refl _, rfl, HG5, ⟨HZ.out⟩, HB5⟩
    case round =>
      obtain ⟨k, zs, hnk, rfl, HRo, HZs, HUp⟩ := hrel
      by_cases hlt : k < l
      · have hzl := HZs.out
        have hcell := HRo.out.cell k (by rw [List.length_append, HX.out]; omega)
        have hfro := HRo.out.frozen k
        have hk0 : (0 : Int) ≤ (k : Int) := by omega
        have hset : (xs ++ zs).set k 0 = xs ++ zs.set (k - n) 0 := by rw [List.set_append_right _ _ (by rw [HX.out]; exact hnk), HX.out]
        have HS := Lib.hid hset
        clear hset hzl
        go_wp2
        have HRo2 := HRo.out.put k 0
        rw [HS.out] at HRo2
        refine ⟨⟨k + 1, zs.set (k - n) 0, by omega, by simp, ⟨HRo2⟩, ⟨by rw [List.length_set]; exact HZs.out⟩, ⟨HUp.out.setCell ⟨g, k, none⟩ (.inl rfl) _⟩⟩, ?_⟩
        show l - ((k : Int) + 1).toNat < l - (k : Int).toNat
        omega
      · go_wp2
        go_ret3
        exact ⟨zs, rfl, by rw [HXS.out]; exact HRo.out, HZs.out, HUp.out⟩

set_option maxHeartbeats 2000000 in
set_option maxRecDepth 100000 in
theorem replace_moves (k s m : Int) (g l c fr te mo oc r : Nat) (OA : Option Addr) (ys os : List Int) (w : World) (hf : rgFault k s m = 0) (hrow : Row w g ys) (hl : ys.length = c) (hlc : l ≤ c) (hc : c ≤ 100000) (h1 : fr ≤ te) (h2 : te ≤ l)
    (ho : ReadsInt w .u8 OA mo os) (hoc : OA = none → mo = 0 ∧ oc = 0) (hmo : mo ≤ 100000) (hn : c < l - (te - fr) + mo) (hn1 : l - (te - fr) + mo ≤ 100000) (hG : rgGrow k s m c ↑(l - (te - fr) + mo) = (↑r, 0)) (hnr : l - (te - fr) + mo ≤ r) (hrr : r ≤ 100000) :
    Calls Try.prog 26 #[.agg #[.int .i64 k, .int .i64 s, .int .i64 m], .slice (some ⟨g, 0, none⟩) l c, .int .i64 fr, .int .i64 te, .slice OA mo oc] w fun e w' =>
      ∃ g2 zs, e = .returned (.tuple #[.slice (some ⟨g2, 0, none⟩) (l - (te - fr) + mo) r, .bool true, .int .i64 0]) ∧ w.heap.size ≤ g2 ∧ Row w' g2 (ys.take fr ++ os ++ (ys.drop te).take (l - te) ++ zs) ∧ zs.length + (l - (te - fr) + mo) = r ∧ Below w.heap.size w w' := by
  obtain ⟨n, hne⟩ : ∃ n, n = l - (te - fr) + mo := ⟨_, rfl⟩
  rw [← hne] at hn hn1 hG hnr ⊢
  have HGr := Lib.hid hG
  clear hG
  have HF := Lib.hid hf
  have HR := Aside0.mk hrow
  have HL := Lib.hid hl
  have HO := Aside0.mk ho
  have HOC := Lib.hid hoc
  have hd1 : decide (te < fr) = false := decide_eq_false (by omega)
  have hd2 : decide (l < te) = false := decide_eq_false (by omega)
  have hd0 : decide ((fr : Int) < 0) = false := decide_eq_false (by omega)
  have hd3 : decide (100000 < (n : Int)) = false := decide_eq_false (by omega)
  have hnI : (l : Int) - ((te : Int) - (fr : Int)) + (mo : Int) = (n : Int) := by omega
  have hn9 : n ≤ 100000 := by omega
  have HNE := Lib.hid hne
  clear hf hrow hl ho hoc hne
  go_enter Try.func26, Try.ntmps26
  go_wp2_with fail
  refine (begins_ok k s m _ _ _ _ _ _ _ HF.out hc hmo).mono ?_
  rintro e w1 ⟨rfl, hb1⟩
  have HX1 := Aside0.mk (box_later hb1)
  have HB1 := Aside0.mk (below_then (below_alloc (Below.refl _ _) _) (by simp) hb1)
  obtain ⟨hx0, hx1, hx2⟩ := box_cells HX1.out
  clear hb1
  go_wp2_with fail
  refine (fit_moves k s m (some ⟨g, 0, none⟩) l c n r (ys.take l) _ (by have h := Row.reads_at (HR.out.below HB1.out) 0 l (by have := HL.out; omega) (by have := HL.out; unfold maxLen; omega); simpa using h) hlc HGr.out hn hnr hrr).mono ?_
  rintro e w2 ⟨g2, rfl, hg2, hrow2, hb2⟩
  have HG2 := Aside0.mk hrow2
  have hg2w : w.heap.size ≤ g2 := Nat.le_trans HB1.out.size hg2
  have HB2 := Aside0.mk (below_then HB1.out HB1.out.size hb2)
  clear hg2 hrow2 hb2 hx0 hx1 hx2
  go_wp2_with fail
  refine (clone8 OA mo oc os w2 (HO.out.below HB2.out) (by omega) HOC.out).mono ?_
  rintro e w3 ⟨PA, pc, rfl, hnew⟩
  have HP := Aside0.mk hnew
  have HB3 := Aside0.mk (below_then HB2.out HB2.out.size hnew.below)
  have HG3 := Aside0.mk (HG2.out.below hnew.below)
  obtain ⟨z0, hz0⟩ : ∃ z0, z0 = ys.take l ++ List.replicate (r - l) 0 := ⟨_, rfl⟩
  rw [← hz0] at HG3
  have hzl0 : z0.length = r := by rw [hz0]; have := HL.out; simp; omega
  have hzt : z0.take fr = ys.take fr := by rw [hz0, List.take_append_of_le_length (by have := HL.out; simp; omega), List.take_take, Nat.min_eq_left (by omega)]
  have HZL0 := Lib.hid hzl0
  have HZT := Lib.hid hzt
  have hgg : g2 ≠ g := fun e => by have := HR.out.lt; omega
  clear hz0 hzl0 hzt
  have hfm : fr + mo ≤ n := by have := HNE.out; omega
  have hrest : n - (fr + mo) = l - te := by have := HNE.out; omega
  have HRest := Lib.hid hrest
  obtain ⟨A1, hA1, eA1⟩ := sub_from (some ⟨g2, 0, none⟩) n r (fr + mo) (↑fr + ↑mo) (by omega) hfm
  obtain ⟨A2, hA2, eA2⟩ := sub_from (some ⟨g, 0, none⟩) l c te ↑te rfl h2
  obtain ⟨A3, hA3, eA3⟩ := sub_from (some ⟨g2, 0, none⟩) n r fr ↑fr rfl (by omega)
  have E1 := Lib.hid eA1
  have E2 := Lib.hid eA2
  have E3 := Lib.hid eA3
  clear hnew eA1 eA2 eA3 hrest
  go_wp2_with fail
  go_cut [] (fun wx => Aside0 (Row wx g2 (z0.take (fr + mo) ++ (ys.drop te).take (l - te) ++ z0.drop (fr + mo + (l - te)))) ∧ Aside0 (Upd (fun k => k = g2) w3 wx))
  case first =>
    have hxl : ((ys.drop te).take (l - te)).length = l - te := by have := HL.out; simp; omega
    have HXL := Lib.hid hxl
    have hw9 : IntKind.i64.wrap ((fr : Int) + (mo : Int)) = (fr : Int) + (mo : Int) := IntWalk.i64_in _ (by omega)
    clear hxl
    go_region_held3 (fun _ => True) (trivial) ((refine step_copy8 rfl (.tmp 69) (.tmp 72) rfl A1 A2 (n - (fr + mo)) (r - (fr + mo)) (l - te) (c - te) (by rfl) (by rfl) g2 (fr + mo) z0 ((ys.drop te).take (l - te)) HG3.out.drew (by rw [HXL.out, HRest.out]; exact (Nat.min_self _).symm) (fun h0 => by rw [HXL.out] at h0 ⊢; exact ⟨(E1.out (by omega)).trans (by simp [add_zero']), by rw [E2.out (by omega), Option.map_some, add_zero']; exact Row.reads_at (HR.out.below HB3.out).drew te (l - te) (by have := HL.out; omega) (by have := HL.out; unfold maxLen; omega)⟩) (by rw [HXL.out, HZL0.out]; omega) ?_; intro w4 HG4 HU4 hz4))
    all_goals
      rw [HXL.out] at HG4
      go_wp2_with fail
      go_meet
      exact ⟨HG4, ⟨(Upd.of_below (below_drew (Below.refl _ _))).then HU4.out (fun k hk => .inl hk)⟩⟩
  case rest =>
    obtain ⟨HG4, HU4⟩ := hcut
    have hlos := Lib.hid (HO.out.1)
    have HPR := Aside0.mk (reads_upd HP.out.reads HU4.out (fun ad e _ => fun hk => by
      obtain ⟨g9, rfl, hy, _⟩ := HP.out.young ad e
      have := HG2.out.lt
      simp at hk; omega))
    generalize hys1 : z0.take (fr + mo) ++ (ys.drop te).take (l - te) ++ z0.drop (fr + mo + (l - te)) = ys1 at HG4
    have HY1 := Lib.hid hys1
    have hyl : ys1.length = r := by rw [← hys1]; have := HL.out; have := HZL0.out; simp; omega
    have HYL := Lib.hid hyl
    clear hys1 hyl
    go_wp2_with ((with_reducible refine gate_builtin (b := .copy) (xs := #[.tmp 76, .tmp 77]) rfl ?_); refine wpList_copy8 rfl (.tmp 76) (.tmp 77) rfl A3 PA (n - fr) (r - fr) mo pc rfl rfl g2 fr ys1 os HG4.out (by rw [hlos.out]; exact (Nat.min_eq_left (by omega)).symm) (fun h0 => ⟨(E3.out (by rw [hlos.out] at h0; omega)).trans (by rw [Option.map_some, add_zero']), by rw [hlos.out]; exact HPR.out⟩) (by rw [hlos.out, HYL.out]; omega) ?_; intro w5 HG5 HU5 hz5)
    have HB5 : Aside0 (Below w.heap.size w w5) := ⟨Upd_below_of HU5.out (Upd_below_of HU4.out HB3.out HB3.out.size (fun k hk => by omega)) (Nat.le_trans HB3.out.size HU4.out.size) (fun k hk => by omega)⟩
    have hys2 : ∃ zs, ys1.take fr ++ os ++ ys1.drop (fr + os.length) = ys.take fr ++ os ++ (ys.drop te).take (l - te) ++ zs ∧ zs.length + n = r := by
      refine ⟨z0.drop (fr + mo + (l - te)), ?_, ?_⟩
      · rw [← HY1.out, hlos.out]
        rw [splice_two z0 os _ _ fr mo (by have := HZL0.out; omega), HZT.out]
      · have := HZL0.out; have := HNE.out; simp; omega
    obtain ⟨zs, hz1, hz2⟩ := hys2
    rw [hz1] at HG5
    have hxn : (ys.take fr ++ os ++ (ys.drop te).take (l - te)).length = n := by have := HL.out; have := HNE.out; simp [hlos.out]; omega
    clear hxn
    go_wp2
    go_ret3
    exact ⟨g2, zs, rfl, hg2w, HG5.out, hz2, HB5.out⟩
end Go.Proofs.Ythhnmanhehbbhaa.Oct
