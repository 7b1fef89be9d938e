/- Arenas: place. -/
import Derived.Test.YticbjaclnneaoaaArList
namespace Go.Proofs.Yticbjaclnneaoaa.Arena
set_option linter.unusedVariables false
open Go.RowKit Go.Proofs.YticbjaclnneaoaaW.PrintWords Go.Proofs.YticbjaclnneaoaaW.PrintLast Go.Proofs.YticbjaclnneaoaaW.PrintMore Go.Proofs.Yticbjaclnneaoaa.Book Go.Proofs.Yticbjaclnneaoaa.Oct
set_option linter.unusedSimpArgs false

/-- What place answers. -/
def spotV (N n : Nat) : Option (Nat × Nat) → Array Value
  | none => #[.int .i64 N, .int .i64 0, .int .i64 n]
  | some (i, b) => #[.int .i64 i, .int .i64 b, .int .i64 ((b : Int) + (n : Int))]
theorem plcL_drop (n : Nat) {cs : List Chu} {k : Nat} {c : Chu} (h : cs[k]? = some c) (a : Nat) : plcL n (cs.drop k) k a = if a + n ≤ c.ys.length then some (k, a) else plcL n (cs.drop (k + 1)) (k + 1) 0 := by
  obtain ⟨hk, rfl⟩ := List.getElem?_eq_some_iff.1 h
  rw [List.drop_eq_getElem_cons hk]
  rfl
theorem old3 {w : World} {X : Obj} {a : Addr} {v : Value} (h : w.cell? a = some v) : (w.alloc X).cell? a = some v := old_cell h (below_alloc (Below.refl _ _) _)

set_option maxHeartbeats 2000000 in
set_option maxRecDepth 100000 in
theorem place {w : World} {aa p : Nat} {o k s m size : Int} {S : ArS} (hA : ArenaAt w aa p o k s m size S) (hG : Good S) (n al : Nat) (hn : n ≤ 100000) (h1 : 1 ≤ al) (h2 : al ≤ 64) :
    Calls Try.prog 29 #[.pointer (some ⟨aa, 0, none⟩), .int .i64 n, .int .i64 al] w fun e w' => e = .returned (.tuple #[.agg (spotV S.cs.length n (plc S.cs S.rs n al)), .bool (plc S.cs S.rs n al).isSome]) ∧ Below w.heap.size w w' := by
  obtain ⟨P, hP⟩ : ∃ P, P = plc S.cs S.rs n al := ⟨_, rfl⟩
  rw [← hP]
  have HG := Aside0.mk hG
  obtain ⟨hh0, hh1, hh2, hh3, hh4, hh5, hh6, hh7, hh8, hh9, hh10, hh11, hh12⟩ := arena_cells hA.head
  obtain ⟨B, bcap, hcv, hbcap⟩ := own_shape hA.ownC
  have HCr := hA.ownC
  rw [hcv] at hh7 HCr
  have hfew := hG.few
  obtain ⟨N, hN⟩ : ∃ N, N = S.cs.length := ⟨_, rfl⟩
  rw [← hN] at hh7 hbcap hfew HCr
  rw [← hN]
  have HN := Lib.hid hN
  have HP := Lib.hid hP
  have HR := Aside0.mk HCr
  have hb : Below w.heap.size w (w.alloc (.cells #[.int .i64 0, .int .i64 0, .int .i64 0] 80)) := below_alloc (Below.refl _ _) _
  have k7 := old_cell hh7 hb
  have hA2 := hA.below hb
  have hend : ∀ (x y z : Value), Below w.heap.size w ((((w.alloc (.cells #[.int .i64 0, .int .i64 0, .int .i64 0] 80)).setCell ⟨w.heap.size, 0, none⟩ x).setCell ⟨w.heap.size, 1, none⟩ y).setCell ⟨w.heap.size, 2, none⟩ z) := fun x y z => below_set (below_set (below_set hb (Nat.le_refl _)) (Nat.le_refl _)) (Nat.le_refl _)
  have HE := Aside0.mk hend
  clear hA hh0 hh1 hh2 hh3 hh4 hh5 hh6 hh7 hh8 hh9 hh10 hh11 hh12 hcv HCr hP hN hG hend
  rcases Nat.eq_zero_or_pos S.rs.length with h00 | hpos
  · have hrs : S.rs = [] := List.eq_nil_of_length_eq_zero h00
    have HL := Aside0.mk (lastNil hA2 hrs)
    have HP0 : Hid (plcL n (S.cs.drop 0) 0 0 = P) := Lib.hid (by rw [HP.out]; unfold plc; rw [hrs]; rfl)
    clear hA2 hrs h00 hb
    go_enter Try.func29, Try.ntmps29
    go_wp2_with (go_at_call 28; refine HL.out.mono ?_; rintro e w1 ⟨rfl, rfl⟩)
    go_loop [8, 9] (fun s8 s9 => ∃ k a : Nat, k ≤ N ∧ a ≤ 200000 ∧ s8 = .int .i64 k ∧ s9 = .int .i64 a ∧ Hid (plcL n (S.cs.drop k) k a = P)) (fun s8 _ => N - (intOf s8).toNat)
    case atStart => exact ⟨0, 0, Nat.zero_le _, Nat.zero_le _, rfl, rfl, HP0⟩
    case round =>
      obtain ⟨k, a, hk, ha, rfl, rfl, HK⟩ := hrel
      by_cases hlt : k < N
      · obtain ⟨c, hc⟩ : ∃ c, S.cs[k]? = some c := ⟨_, List.getElem?_eq_getElem (by rw [← HN.out]; exact hlt)⟩
        obtain ⟨g, rfl, c0⟩ := chuAt HR.out hc
        have c0' : (w.alloc (.cells #[.int .i64 0, .int .i64 0, .int .i64 0] 80)).cell? ⟨g, k, none⟩ = _ := old3 c0
        have hch := HG.out.chunk (List.mem_of_getElem? hc)
        have HD := Lib.hid (plcL_drop n hc a)
        clear hc c0
        by_cases hfit : a + n ≤ c.ys.length
        · have hPP : P = some (k, a) := by rw [← HK.out, HD.out, if_pos hfit]
          subst hPP
          have hdc : decide ((a : Int) ≤ (c.ys.length : Int) - (n : Int)) = true := decide_eq_true (by omega)
          clear HK HP
          go_wp2_with fail
          refine bodyPost_ret (results_ct rfl _ _ w.heap.size 80 #[.int .i64 k, .int .i64 a, .int .i64 ((a : Int) + (n : Int))] (0, 0) _ rfl ?_ Try.underlying80 rfl rfl) rfl ?_
          · exact blk_new w _
          · exact ⟨rfl, below_alloc (Below.refl _ _) _⟩
        · have HK2 : Hid (plcL n (S.cs.drop (k + 1)) (k + 1) 0 = P) := Lib.hid (by rw [← HK.out, HD.out, if_neg hfit])
          have hdc : decide ((a : Int) ≤ (c.ys.length : Int) - (n : Int)) = false := decide_eq_false (by omega)
          go_wp2_with fail
          go_round
          case rel => exact ⟨k + 1, 0, by omega, Nat.zero_le _, rfl, rfl, HK2⟩
          case measure => simp [intOf]; omega
      · obtain rfl : k = N := by omega
        have hPP : P = none := by rw [← HK.out, List.drop_eq_nil_of_le (Nat.le_of_eq HN.out.symm)]; rfl
        subst hPP
        clear HK HP
        go_wp2_with fail
        refine bodyPost_ret (results_ct rfl _ _ w.heap.size 80 #[.int .i64 k, .int .i64 0, .int .i64 n] (0, 0) _ rfl ?_ Try.underlying80 rfl rfl) rfl ?_
        · exact blk_new w _
        · exact ⟨rfl, below_alloc (Below.refl _ _) _⟩
  · obtain ⟨j, hj⟩ : ∃ j, S.rs.length = j + 1 := ⟨S.rs.length - 1, by omega⟩
    obtain ⟨x, hx, hgl⟩ := last_at hj
    obtain ⟨A, cap, hrv, hcap⟩ := own_shape hA2.ownR
    have HQr := hA2.ownR
    rw [hrv] at HQr
    obtain ⟨g0, rfl, c0, c1, c2, c3⟩ := regAt HQr hx
    rw [hj] at hrv
    have hfewR := HG.out.fewR
    have HL := Aside0.mk (lastSome hA2 (n := j) (by omega) hrv)
    obtain ⟨d, hd, f1, f2⟩ := HG.out.regs x (List.mem_of_getElem? hx)
    have hdl := (List.getElem?_eq_some_iff.1 hd).1
    rw [← HN.out] at hdl
    have htt := (HG.out.reg (List.mem_of_getElem? hx)).2
    obtain ⟨q, hq⟩ : ∃ q, q = (x.tt + al - 1) / al := ⟨_, rfl⟩
    have hqm : q * al ≤ 100064 := by rw [hq]; have := rup_le x.tt al h1; unfold rup at this; omega
    have HP0 : Hid (plcL n (S.cs.drop x.ch) x.ch (q * al) = P) := Lib.hid (by rw [HP.out, hq]; unfold plc; rw [hgl]; rfl)
    have hq2 : Int.tdiv ((x.tt : Int) + (al : Int) - 1) (al : Int) = (q : Int) := by
      rw [hq, show ((x.tt : Int) + (al : Int) - 1) = ((x.tt + al - 1 : Nat) : Int) by omega]
      rfl
    have hqb : q ≤ 100064 := Nat.le_trans (Nat.le_mul_of_pos_right q (by omega)) hqm
    have hqm2 : (q : Int) * (al : Int) ≤ 100064 := by rw [← Int.natCast_mul]; omega
    have hqm3 : 0 ≤ (q : Int) * (al : Int) := Int.mul_nonneg (by omega) (by omega)
    have hal0 : ((al : Int) == 0) = false := beq_eq_false_iff_ne.2 (by omega)
    have hqw : IntKind.i64.wrap ((q : Int) * (al : Int)) = (q : Int) * (al : Int) := IntWalk.i64_in _ ⟨by omega, by omega⟩
    have hN8 := hdl
    clear hA2 hx hgl HQr hrv hcap hd f1 f2 hpos hb hq c0 hj hfewR
    go_enter Try.func29, Try.ntmps29
    go_wp2_with (go_at_call 28; refine HL.out.mono ?_; rintro e w1 ⟨rfl, m1, rfl⟩)
    go_quiet ((fail))
    go_wp2_with fail
    go_loop [8, 9] (fun s8 s9 => ∃ k a : Nat, k ≤ N ∧ a ≤ 200000 ∧ s8 = .int .i64 k ∧ s9 = .int .i64 a ∧ Hid (plcL n (S.cs.drop k) k a = P)) (fun s8 _ => N - (intOf s8).toNat)
    case atStart => exact ⟨x.ch, q * al, by omega, by omega, rfl, by simp, HP0⟩
    case round =>
      obtain ⟨k, a, hk, ha, rfl, rfl, HK⟩ := hrel
      by_cases hlt : k < N
      · obtain ⟨c, hc⟩ : ∃ c, S.cs[k]? = some c := ⟨_, List.getElem?_eq_getElem (by rw [← HN.out]; exact hlt)⟩
        obtain ⟨g, rfl, c0⟩ := chuAt HR.out hc
        have c0' : (w.alloc (.cells #[.int .i64 0, .int .i64 0, .int .i64 0] 80)).cell? ⟨g, k, none⟩ = _ := old3 c0
        have hch := HG.out.chunk (List.mem_of_getElem? hc)
        have HD := Lib.hid (plcL_drop n hc a)
        clear hc c0
        by_cases hfit : a + n ≤ c.ys.length
        · have hPP : P = some (k, a) := by rw [← HK.out, HD.out, if_pos hfit]
          subst hPP
          have hdc : decide ((a : Int) ≤ (c.ys.length : Int) - (n : Int)) = true := decide_eq_true (by omega)
          clear HK HP
          go_wp2_with fail
          refine bodyPost_ret (results_ct rfl _ _ w.heap.size 80 #[.int .i64 k, .int .i64 a, .int .i64 ((a : Int) + (n : Int))] (0, 0) _ rfl ?_ Try.underlying80 rfl rfl) rfl ?_
          · exact spot_set (W := (w.alloc (.cells #[.int .i64 0, .int .i64 0, .int .i64 0] 80)).drewN _) (by exact blk_new w (.cells #[.int .i64 0, .int .i64 0, .int .i64 0] 80)) _ _ _
          · exact ⟨rfl, below_set (below_set (below_set (pw_below_drewN (below_alloc (Below.refl _ _) _) _) (Nat.le_refl _)) (Nat.le_refl _)) (Nat.le_refl _)⟩
        · have HK2 : Hid (plcL n (S.cs.drop (k + 1)) (k + 1) 0 = P) := Lib.hid (by rw [← HK.out, HD.out, if_neg hfit])
          have hdc : decide ((a : Int) ≤ (c.ys.length : Int) - (n : Int)) = false := decide_eq_false (by omega)
          go_wp2_with fail
          go_round
          case rel =>
            exact ⟨_, _, _, ⟨k + 1, by omega, 0, Nat.zero_le _, rfl, rfl, HK2⟩, rfl, rfl, rfl⟩
          case measure => simp [intOf]; omega
      · obtain rfl : k = N := by omega
        have hPP : P = none := by rw [← HK.out, List.drop_eq_nil_of_le (Nat.le_of_eq HN.out.symm)]; rfl
        subst hPP
        clear HK HP
        go_wp2_with fail
        refine bodyPost_ret (results_ct rfl _ _ w.heap.size 80 #[.int .i64 k, .int .i64 0, .int .i64 n] (0, 0) _ rfl ?_ Try.underlying80 rfl rfl) rfl ?_
        · exact spot_set (W := (w.alloc (.cells #[.int .i64 0, .int .i64 0, .int .i64 0] 80)).drewN _) (by exact blk_new w (.cells #[.int .i64 0, .int .i64 0, .int .i64 0] 80)) _ _ _
        · exact ⟨rfl, below_set (below_set (below_set (pw_below_drewN (below_alloc (Below.refl _ _) _) _) (Nat.le_refl _)) (Nat.le_refl _)) (Nat.le_refl _)⟩
end Go.Proofs.Yticbjaclnneaoaa.Arena
