/- slices.Repeat of -1. -/
import Derived.Test.YtghdeoeajbnfkaaWRepP
namespace Go.Proofs.Ytghdeoeajbnfkaa.WSl
open Go.RowKit Go.Proofs.YtghdeoeajbnfkaaW.PrintWords Go.Proofs.YtghdeoeajbnfkaaW.PrintLast Go.Proofs.YtghdeoeajbnfkaaW.PrintMore Go.Proofs.Ytghdeoeajbnfkaa.WMem
set_option linter.unusedSimpArgs false
set_option linter.unusedVariables false

theorem makeInt (n : Nat) (hr : n ≤ 1000000) : ∃ cs : Array Value, cs.size = n ∧ (∀ j, j < n → cs[j]? = some (.int .i64 0)) ∧ ∀ u : World, (Instr.makeSlice 35 (.int .i64 n) (.int .i64 n)).run Try.prog u = .ok (.slice (some ⟨u.heap.size, 0, none⟩) n n) (u.alloc (.cells cs 3)) := by
  obtain ⟨i0, hi, hz0, hz1, hz2⟩ := info_parts infoInt
  refine ⟨madeCells (Value.int .i64 0).cells n, by simp [madeCells, Value.cells], fun j hj => ?_, fun u => ?_⟩
  · simp [madeCells, Value.cells, hj, Nat.mod_one]
  · have h := run_make (P := Try.prog) u 35 3 i0 (.int .i64 0) Try.underlying35 hi hz0 .i64 .i64 (n : Int) (n : Int) (by omega) (by omega) (by rw [hz2]; omega) (by omega)
    rw [h, Int.toNat_natCast, hz1, Nat.mul_one]

theorem rep_start (u : World) (p n k : Nat) (cs : Array Value) (hk : k = min 1 n) (hcs : cs.size = n) (hcz : ∀ j, j < n → cs[j]? = some (.int .i64 0)) (hx : u.cell? ⟨p, 0, none⟩ = some (.int .i64 (-1))) :
    ∃ w3, (∀ ty, (Builtin.copy_ #[35, 35] ty #[.slice (some ⟨u.heap.size, 0, none⟩) n n, .slice (some ⟨p, 0, none⟩) 1 1]).run Try.prog (u.alloc (.cells cs 3)) = .ok (.int .i64 k) w3) ∧ RMid (u.alloc (.cells cs 3)) w3 u.heap.size n k := by
  have hb := blk_new u (.cells cs 3)
  have h0 : RMid (u.alloc (.cells cs 3)) (u.alloc (.cells cs 3)) u.heap.size n 0 := ⟨Only.refl _, fun j hj => ⟨by rw [blk_cell hb, hcz j hj, if_neg (by omega)], blk_frozen hb j⟩⟩
  have hx2 : (u.alloc (.cells cs 3)).cell? ⟨p, 0, none⟩ = some (.int .i64 (-1)) := by
    rw [← hx]
    exact (below_alloc (Below.refl u.heap.size u) (.cells cs 3)).cell (p := ⟨p, 0, none⟩) (cell_lt hx)
  have hst := h0.step k (by omega)
  rw [Nat.zero_add] at hst
  refine ⟨_, fun ty => run_copy_ones (u.alloc (.cells cs 3)) u.heap.size 0 n n ⟨p, 0, none⟩ 1 1 k hk (fun j hj => ?_) (fun j hj => ?_) ty, hst⟩
  · obtain rfl : j = 0 := by omega
    exact hx2
  · rw [Nat.zero_add]
    exact ⟨by rw [(h0.cell j (by omega)).1]; rfl, (h0.cell j (by omega)).2⟩

theorem rep_next (wB wr : World) (g n m : Nat) (h : RMid wB wr g n m) (hm : m < n) (h0 : 0 < m) :
    ∃ w3, (∀ ty, (Builtin.copy_ #[35, 35] ty #[.slice (some ⟨g, m, none⟩) (n - m) (n - m), .slice (some ⟨g, 0, none⟩) m n]).run Try.prog wr.drew = .ok (.int .i64 ((min m (n - m) : Nat) : Int)) w3) ∧ RMid wB w3 g n (m + min m (n - m)) := by
  have h2 : RMid wB wr.drew g n m := ⟨h.only.drew, h.cell⟩
  refine ⟨_, fun ty => run_copy_ones wr.drew g m (n - m) (n - m) ⟨g, 0, none⟩ m n (min m (n - m)) rfl (fun j hj => ?_) (fun j hj => ?_) ty, h2.step (min m (n - m)) (by omega)⟩
  · rw [add_at, Nat.zero_add, (h2.cell j (by omega)).1, if_pos (by omega)]
  · exact ⟨by rw [(h2.cell (m + j) (by omega)).1]; rfl, (h2.cell (m + j) (by omega)).2⟩

theorem rep_from (g n m : Nat) (hm : m < n) (hn : n ≤ 1000000) (W : World) : (Instr.slice 35 (.slice (some ⟨g, 0, none⟩) n n) (some (.int .i64 m)) none none).run Try.prog W = .ok (.slice (some ⟨g, m, none⟩) (n - m) (n - m)) W := by
  obtain ⟨i0, hi, hz0, hz1, hz2⟩ := info_parts infoInt
  have := cut_from (P := Try.prog) 35 3 .i64 Try.underlying35 hi 1 hz1 (some ⟨g, 0, none⟩) n n (m : Int) (by omega) (by omega) W
  have hne : n ≠ m := by omega
  simpa [hne, add_at] using this
theorem rep_to (g n m : Nat) (hm : m < n) (hn : n ≤ 1000000) (W : World) : (Instr.slice 35 (.slice (some ⟨g, 0, none⟩) n n) none (some (.int .i64 m)) none).run Try.prog W = .ok (.slice (some ⟨g, 0, none⟩) m n) W := by
  obtain ⟨i0, hi, hz0, hz1, hz2⟩ := info_parts infoInt
  have := cut_to (P := Try.prog) 35 3 .i64 Try.underlying35 hi (some ⟨g, 0, none⟩) n n (m : Int) (by omega) (by omega) (Nat.le_refl _) W
  simpa using this

set_option maxHeartbeats 8000000 in
set_option maxRecDepth 100000 in
theorem repeat1 (p n : Nat) (w : World) (hx : w.cell? ⟨p, 0, none⟩ = some (.int .i64 (-1))) (hn : n ≤ 1000000) :
    Calls Try.prog 25 #[.slice (some ⟨p, 0, none⟩) 1 1, .int .i64 n] w fun e w' => ∃ v, e = .returned v ∧ Kd.R (Kd.int .i64) 3 w' w.heap.size (fun j => w.heap.size ≤ j) v (List.replicate n (-1)) ∧ Below w.heap.size w w' := by
  obtain ⟨cs, hcs, hcz, hmk⟩ := makeInt n hn
  have HCS := Lib.hid hcs
  have HCZ := Aside0.mk hcz
  have HM := Aside0.mk (fun u => bits_Mul.calls 1 n 0 n u (mul_one' n hn))
  clear hcs hcz
  obtain ⟨k, hk⟩ : ∃ k, k = min 1 n := ⟨_, rfl⟩
  have HK := Lib.hid hk
  have hk2 : k ≤ 1 := by omega
  clear hk
  go_enter Try.func25, Try.ntmps25
  go_wp2_with (first | (go_at_call 31; refine (HM.out _).mono ?_; rintro e w' ⟨rfl, ⟨nd, rfl⟩⟩; obtain ⟨w3, hcp, hrm⟩ := rep_start (w.drewN nd) p n k cs HK.out HCS.out HCZ.out hx; have HRM := Aside0.mk hrm; clear hrm; replace hcp : ∀ ty, (Builtin.copy_ #[35, 35] ty #[.slice (some ⟨w.heap.size, 0, none⟩) n n, .slice (some ⟨p, 0, none⟩) 1 1]).run Try.prog ((w.drewN nd).alloc (.cells cs 3)) = .ok (.int .i64 k) w3 := hcp))
  go_loopw [8] (fun v wr => ∃ m : Nat, m ≤ n ∧ k ≤ m ∧ v = .int .i64 m ∧ Aside0 (RMid ((w.drewN nd).alloc (.cells cs 3)) wr w.heap.size n m)) (fun v _ => n - (intOf v).toNat)
  case atStart => exact ⟨k, by have := HK.out; omega, Nat.le_refl _, rfl, HRM⟩
  case round =>
    obtain ⟨m, hm, hkm, rfl, HD⟩ := hrel
    by_cases hlt : m < n
    · have h0 : 0 < m := by have := HK.out; omega
      obtain ⟨w4, hc4, hr4⟩ := rep_next _ wr w.heap.size n m HD.out hlt h0
      have HR4 := Aside0.mk hr4
      have hs1 := rep_from w.heap.size n m hlt hn
      have hs2 := rep_to w.heap.size n m hlt hn
      obtain ⟨q, hq⟩ : ∃ q, q = min m (n - m) := ⟨_, rfl⟩
      rw [← hq] at hc4
      have HQ := Lib.hid hq
      have hq2 : q ≤ 1000000 := by omega
      clear hr4 hq
      go_wp2
      go_region
      have hqm := HQ.out
      go_wp2
      go_roundw
      case rel => exact ⟨m + q, by omega, by omega, by go_num, ⟨by rw [HQ.out]; exact HR4.out⟩⟩
      case measure => simp [intOf]; omega
    · have hmn : m = n := by omega
      have HE := Aside0.mk HD.out
      rw [hmn] at HE
      clear hmn
      have hb := blk_new (w.drewN nd) (.cells cs 3)
      have HF := Aside0.mk (HE.out.own hb HCS.out (by unfold maxLen; omega) w.heap.size (Nat.le_refl _))
      have HG := Aside0.mk ((below_alloc (pw_below_drewN (Below.refl w.heap.size w) nd) (.cells cs 3)).trans (HE.out.only.below (B := w.heap.size) (by simp) (fun k i h => by omega)))
      clear hb
      go_wp2
      go_ret
      exact ⟨_, rfl, HF.out, HG.out⟩

end Go.Proofs.Ytghdeoeajbnfkaa.WSl
