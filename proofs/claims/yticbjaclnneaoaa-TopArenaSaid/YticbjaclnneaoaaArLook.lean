/- Arenas: memory, find, living, Where, Look, Copy, Regions, Chunks, Lost. -/
import Derived.Test.YticbjaclnneaoaaArLen
import Derived.Test.YticbjaclnneaoaaSlices
namespace Go.Proofs.Yticbjaclnneaoaa.Arena
set_option linter.unusedVariables false
open Go.RowKit Go.Proofs.YticbjaclnneaoaaW.PrintWords Go.Proofs.YticbjaclnneaoaaW.PrintLast Go.Proofs.YticbjaclnneaoaaW.PrintMore Go.Proofs.Yticbjaclnneaoaa.Book Go.Proofs.Yticbjaclnneaoaa.Oct
set_option linter.unusedSimpArgs false

/-- x[lo:hi:hi]. -/
theorem sub_three (A : Option Addr) (n c lo hi : Nat) (h1 : lo ≤ hi) (h2 : hi ≤ c) : ∃ A' : Option Addr, (∀ W : World, (Instr.slice 46 (.slice A n c) (some (.int .i64 lo)) (some (.int .i64 hi)) (some (.int .i64 hi))).run Try.prog W = .ok (.slice A' (hi - lo) (hi - lo)) W) ∧ (lo < hi → A' = A.map (·.add lo)) := by
  obtain ⟨i0, hi0, hz0, hz1, hz2⟩ := info_parts infoU8
  have hel : Try.prog.elem 46 = 5 := by simp [Program.elem, Try.underlying46]
  have hu : Try.prog.underlying 46 = some (.slice (Try.prog.elem 46)) := by rw [hel]; exact Try.underlying46
  refine ⟨if hi = lo then A else A.map (·.add lo), fun W => ?_, fun h => if_neg (by omega)⟩
  rw [run_slice_lhm W 46 A n c hu .i64 .i64 .i64 lo hi hi (by omega) (by omega) (by omega) (by omega), hel]
  simp [sizeOf, typeInfo, hi0, hz1, sliced, Result.andThen]

set_option maxHeartbeats 1000000 in
set_option maxRecDepth 100000 in
theorem memoryOf {w : World} {aa p : Nat} {o k s m size : Int} {S : ArS} (hA : ArenaAt w aa p o k s m size S) {i f t : Nat} {c : Chu} (hc : S.cs[i]? = some c) (hf : f ≤ t) (ht : t ≤ c.ys.length) (hr : c.ys.length ≤ 100000) (hi : i < 200) :
    Calls Try.prog 31 #[.pointer (some ⟨aa, 0, none⟩), .agg #[.int .i64 i, .int .i64 f, .int .i64 t]] w fun e w' => ∃ A, e = .returned (.slice A (t - f) (t - f)) ∧ (f < t → A = some ⟨c.g, f, none⟩) ∧ Below w.heap.size w w' := by
  obtain ⟨h0, h1, h2, h3, h4, h5, h6, h7, h8, h9, h10, h11, h12⟩ := arena_cells hA.head
  obtain ⟨A, cap, hv, hcap⟩ := own_shape hA.ownC
  have HQr := hA.ownC
  rw [hv] at h7 HQr
  obtain ⟨g, rfl, c0⟩ := chuAt HQr hc
  have hil := (List.getElem?_eq_some_iff.1 hc).1
  obtain ⟨n, hn⟩ : ∃ n, n = S.cs.length := ⟨_, rfl⟩
  rw [← hn] at h7 hil
  obtain ⟨L, hL⟩ : ∃ L, L = c.ys.length := ⟨_, rfl⟩
  rw [← hL] at c0 ht hr
  obtain ⟨A', hs, hA'⟩ := sub_three (some ⟨c.g, 0, none⟩) L L f t hf ht
  have HA' := Aside0.mk hA'
  have hb : Below w.heap.size w (w.alloc (.cells #[.int .i64 i, .int .i64 f, .int .i64 t] 80)) := below_alloc (Below.refl _ _) _
  have k7 := old_cell h7 hb
  have k0 := old_cell c0 hb
  have n0 : (w.alloc (.cells #[.int .i64 i, .int .i64 f, .int .i64 t] 80)).cell? ⟨w.heap.size, 0, none⟩ = some (.int .i64 i) := by rw [blk_cell (blk_new _ _)]; rfl
  have n1 : (w.alloc (.cells #[.int .i64 i, .int .i64 f, .int .i64 t] 80)).cell? ⟨w.heap.size, 1, none⟩ = some (.int .i64 f) := by rw [blk_cell (blk_new _ _)]; rfl
  have n2 : (w.alloc (.cells #[.int .i64 i, .int .i64 f, .int .i64 t] 80)).cell? ⟨w.heap.size, 2, none⟩ = some (.int .i64 t) := by rw [blk_cell (blk_new _ _)]; rfl
  clear hA h0 h1 h2 h3 h4 h5 h6 h7 c0 h8 h9 h10 h11 h12 hv HQr hc hA' hn hL hb
  go_enter Try.func31, Try.ntmps31
  go_wp2
  go_quiet ((fail))
  go_wp2
  go_ret
  refine ⟨A', rfl, fun h => ?_, ?_⟩
  · rw [HA'.out h]
    simp [add_zero']
  · exact pw_below_drewN (below_alloc (Below.refl _ _) _) _

theorem nos_ne {rs : List Reg} (h : (rs.map (·.no)).Pairwise (· < ·)) {i n : Nat} {x y : Reg} (hx : rs[i]? = some x) (hy : rs[n]? = some y) (hn : n < i) : y.no ≠ x.no := by
  obtain ⟨h1, rfl⟩ := List.getElem?_eq_some_iff.1 hx
  obtain ⟨h2, rfl⟩ := List.getElem?_eq_some_iff.1 hy
  have := (List.pairwise_iff_getElem.1 h) n i (by simpa using h2) (by simpa using h1) hn
  simp only [List.getElem_map] at this
  omega

set_option maxHeartbeats 1000000 in
set_option maxRecDepth 100000 in
theorem findAt {w : World} {aa p : Nat} {o k s m size : Int} {S : ArS} (hA : ArenaAt w aa p o k s m size S) (hG : Good S) {i g N cap : Nat} {x : Reg} (hi : S.rs[i]? = some x) (hv : S.rv = .slice (some ⟨g, 0, none⟩) N cap) :
    Calls Try.prog 45 #[.pointer (some ⟨aa, 0, none⟩), .int .i64 x.no] w fun e w' => e = .returned (.pointer (some ⟨g, i * 4, none⟩)) ∧ ∃ m, w' = w.drewN m := by
  have HG := Aside0.mk hG
  obtain ⟨h0, h1, h2, h3, h4, h5, h6, h7, h8, h9, h10, h11, h12⟩ := arena_cells hA.head
  have HQr := hA.ownR
  rw [hv] at h8 HQr
  have hfew := hG.fewR
  obtain ⟨A, cap', hrv, hcap⟩ := own_shape hA.ownR
  rw [hv] at hrv
  injection hrv with e1 hN e3
  clear e1 e3
  have hil := (List.getElem?_eq_some_iff.1 hi).1
  rw [← hN] at hfew hcap HQr hil
  have HN := Lib.hid hN
  have HI := Lib.hid hi
  have HR := Aside0.mk HQr
  clear hA hG h0 h1 h2 h3 h4 h5 h6 h7 h9 h10 h11 h12 hv HQr hi hN
  go_enter Try.func45, Try.ntmps45
  go_wp2_with fail
  go_loop [5, 11] (fun _ u => ∃ n : Nat, n ≤ i ∧ u = .int .i64 n) (fun _ u => N - (intOf u).toNat)
  case atStart => exact ⟨0, Nat.zero_le _, rfl⟩
  case round =>
    obtain ⟨n, hn, rfl⟩ := hrel
    have hlt : n < N := by omega
    obtain ⟨y, hy⟩ : ∃ y, S.rs[n]? = some y := ⟨_, List.getElem?_eq_getElem (by rw [← HN.out]; exact hlt)⟩
    obtain ⟨g', hg', c0, c1, c2, c3⟩ := regAt HR.out hy
    injection hg' with hg'
    injection hg' with hg'
    subst hg'
    by_cases he : n = i
    · subst he
      obtain rfl : x = y := Option.some.inj (HI.out.symm.trans hy)
      clear hy
      go_wp2_with fail
      go_ret
      exact ⟨rfl, 0, rfl⟩
    · have hne : (y.no == x.no) = false := beq_eq_false_iff_ne.2 (nos_ne HG.out.nos HI.out hy (by omega))
      clear hy
      go_wp2_with fail
      go_round
      case rel => exact ⟨n + 1, by omega, by go_num⟩
      case measure => simp [intOf]; omega

set_option maxHeartbeats 1000000 in
set_option maxRecDepth 100000 in
theorem livingAt {w : World} {aa p : Nat} {o k s m size : Int} {S : ArS} (hA : ArenaAt w aa p o k s m size S) (hG : Good S) {i g N cap : Nat} {x : Reg} (hi : S.rs[i]? = some x) (hv : S.rv = .slice (some ⟨g, 0, none⟩) N cap) :
    Calls Try.prog 32 #[.pointer (some ⟨aa, 0, none⟩), .int .i64 x.no] w fun e w' => e = .returned (.tuple #[.pointer (some ⟨g, i * 4, none⟩), .int .i64 0]) ∧ ∃ m, w' = w.drewN m := by
  obtain ⟨h0, h1, h2, h3, h4, h5, h6, h7, h8, h9, h10, h11, h12⟩ := arena_cells hA.head
  have hF := Aside0.mk (findAt hA hG hi hv)
  clear hA hG h0 h1 h2 h3 h4 h5 h7 h8 h9 h10 h11 h12
  go_enter Try.func32, Try.ntmps32
  go_wp2_with (go_at_call 45; refine (hF.out).mono ?_; rintro e w1 ⟨rfl, m1, rfl⟩)
  go_ret2
  exact ⟨rfl, _, rfl⟩

theorem spot_set {W : World} {g : Nat} {a b c : Value} (h : W.heap[g]? = some (.cells #[a, b, c] 80)) (x y z : Value) : (((W.setCell ⟨g, 0, none⟩ x).setCell ⟨g, 1, none⟩ y).setCell ⟨g, 2, none⟩ z).heap[g]? = some (.cells #[x, y, z] 80) := by
  have := blk_set (blk_set (blk_set h 0 x) 1 y) 2 z
  simpa using this
set_option maxHeartbeats 1000000 in
set_option maxRecDepth 100000 in
theorem whereAt {w : World} {aa p : Nat} {o k s m size : Int} {S : ArS} (hA : ArenaAt w aa p o k s m size S) (hG : Good S) {i : Nat} {x : Reg} (hi : S.rs[i]? = some x) :
    Calls Try.prog 35 #[.pointer (some ⟨aa, 0, none⟩), .int .i64 x.no] w fun e w' => e = .returned (.tuple #[.agg #[.int .i64 x.ch, .int .i64 x.frm, .int .i64 x.tt], .int .i64 0]) ∧ Below w.heap.size w w' := by
  obtain ⟨A, cap, hv, hcap⟩ := own_shape hA.ownR
  have HQr := hA.ownR
  rw [hv] at HQr
  obtain ⟨g, rfl, c0, c1, c2, c3⟩ := regAt HQr hi
  have hF := Aside0.mk (livingAt (hA.below (below_alloc (Below.refl _ _) (.cells #[.int .i64 0, .int .i64 0, .int .i64 0] 80))) hG hi hv)
  have hb : Below w.heap.size w (w.alloc (.cells #[.int .i64 0, .int .i64 0, .int .i64 0] 80)) := below_alloc (Below.refl _ _) _
  have k1 := old_cell c1 hb
  have k2 : (w.alloc (.cells #[.int .i64 0, .int .i64 0, .int .i64 0] 80)).cell? ⟨g, i * 4 + 1 + 1, none⟩ = _ := old_cell c2 hb
  have k3 : (w.alloc (.cells #[.int .i64 0, .int .i64 0, .int .i64 0] 80)).cell? ⟨g, i * 4 + 1 + 2, none⟩ = _ := old_cell c3 hb
  clear hA hG HQr hv c0 c1 c2 c3 hb hi hcap
  go_enter Try.func35, Try.ntmps35
  go_wp2_with (go_at_call 32; refine (hF.out).mono ?_; rintro e w1 ⟨rfl, m1, rfl⟩)
  refine bodyPost_ret (results_ct rfl _ _ w.heap.size 80 #[.int .i64 x.ch, .int .i64 x.frm, .int .i64 x.tt] (0, 0) _ rfl ?_ Try.underlying80 rfl rfl) rfl ?_
  · exact spot_set (W := (w.alloc (.cells #[.int .i64 0, .int .i64 0, .int .i64 0] 80)).drewN m1) (by exact blk_new w (.cells #[.int .i64 0, .int .i64 0, .int .i64 0] 80)) _ _ _
  · exact ⟨rfl, below_set (below_set (below_set (pw_below_drewN (below_alloc (Below.refl _ _) _) _) (Nat.le_refl _)) (Nat.le_refl _)) (Nat.le_refl _)⟩

/-- What a look sees. -/
theorem look_reads {w : World} {g f t : Nat} {ys : List Int} {A : Option Addr} (h : Row w g ys) (hf : f ≤ t) (ht : t ≤ ys.length) (hl : ys.length ≤ 100000) (hA : f < t → A = some ⟨g, f, none⟩) : ReadsInt w .u8 A (t - f) ((ys.drop f).take (t - f)) := by
  by_cases hlt : f < t
  · rw [hA hlt]
    exact h.reads_at f (t - f) (by omega) (by unfold maxLen; omega)
  · have : t - f = 0 := by omega
    rw [this]
    exact reads_nothing _ _ _

set_option maxHeartbeats 1000000 in
set_option maxRecDepth 100000 in
theorem lookAt {w : World} {aa p : Nat} {o k s m size : Int} {S : ArS} (hA : ArenaAt w aa p o k s m size S) (hG : Good S) {i : Nat} {x : Reg} {c : Chu} (hi : S.rs[i]? = some x) (hc : S.cs[x.ch]? = some c) :
    Calls Try.prog 14 #[.pointer (some ⟨aa, 0, none⟩), .int .i64 x.no] w fun e w' => ∃ A, e = .returned (.tuple #[.slice A (x.tt - x.frm) (x.tt - x.frm), .int .i64 0]) ∧ (x.frm < x.tt → A = some ⟨c.g, x.frm, none⟩) ∧ Below w.heap.size w w' := by
  obtain ⟨A, cap, hv, hcap⟩ := own_shape hA.ownR
  have HQr := hA.ownR
  rw [hv] at HQr
  obtain ⟨g, rfl, c0, c1, c2, c3⟩ := regAt HQr hi
  have k2 : w.cell? ⟨g, i * 4 + 1 + 1, none⟩ = _ := c2
  have k3 : w.cell? ⟨g, i * 4 + 1 + 2, none⟩ = _ := c3
  obtain ⟨d, hd, e1, e2⟩ := hG.regs x (List.mem_of_getElem? hi)
  obtain rfl : c = d := Option.some.inj (hc.symm.trans hd)
  have hch := hG.chunk (List.mem_of_getElem? hc)
  have hil := (List.getElem?_eq_some_iff.1 hc).1
  have hfew := hG.few
  have hF := Aside0.mk (livingAt hA hG hi hv)
  have hM := Aside0.mk (fun m1 => memoryOf (w := w.drewN m1) (hA.frame (fun _ _ => rfl)) hc e1 e2 hch (by omega))
  clear hA hG HQr hv c0 c2 c3 hi hcap hc hd e1 e2 hch hil hfew
  go_enter Try.func14, Try.ntmps14
  go_wp2_with (first | (go_at_call 32; refine (hF.out).mono ?_; rintro e w1 ⟨rfl, m1, rfl⟩) | (go_at_call 31; refine (hM.out _).mono ?_; rintro e w2 ⟨A, rfl, hA, hb⟩))
  go_ret2
  exact ⟨A, rfl, hA, below_then (pw_below_drewN (Below.refl _ _) _) (Nat.le_refl _) hb⟩

set_option maxHeartbeats 1000000 in
set_option maxRecDepth 100000 in
theorem copyAt {w : World} {aa p : Nat} {o k s m size : Int} {S : ArS} (hA : ArenaAt w aa p o k s m size S) (hG : Good S) {i : Nat} {x : Reg} {c : Chu} (hi : S.rs[i]? = some x) (hc : S.cs[x.ch]? = some c) :
    Calls Try.prog 36 #[.pointer (some ⟨aa, 0, none⟩), .int .i64 x.no] w fun e w' => ∃ B cap, e = .returned (.tuple #[.slice B (x.tt - x.frm) cap, .int .i64 0]) ∧ x.tt - x.frm ≤ cap ∧ ReadsInt w' .u8 B (x.tt - x.frm) ((c.ys.drop x.frm).take (x.tt - x.frm)) ∧ Below w.heap.size w w' := by
  obtain ⟨A, cap, hv, hcap⟩ := own_shape hA.ownR
  have HQr := hA.ownR
  rw [hv] at HQr
  obtain ⟨g, rfl, c0, c1, c2, c3⟩ := regAt HQr hi
  have k2 : w.cell? ⟨g, i * 4 + 1 + 1, none⟩ = _ := c2
  have k3 : w.cell? ⟨g, i * 4 + 1 + 2, none⟩ = _ := c3
  obtain ⟨d, hd, e1, e2⟩ := hG.regs x (List.mem_of_getElem? hi)
  obtain rfl : c = d := Option.some.inj (hc.symm.trans hd)
  have hch := hG.chunk (List.mem_of_getElem? hc)
  have hil := (List.getElem?_eq_some_iff.1 hc).1
  have hfew := hG.few
  have hrow := hA.rows c (List.mem_of_getElem? hc)
  have hF := Aside0.mk (livingAt hA hG hi hv)
  have hM := Aside0.mk (fun m1 => memoryOf (w := w.drewN m1) (hA.frame (fun _ _ => rfl)) hc e1 e2 hch (by omega))
  have HC := Aside0.mk (fun (A : Option Addr) (w2 : World) (hAd : x.frm < x.tt → A = some ⟨c.g, x.frm, none⟩) (hb : Below w.heap.size w w2) => clone8 A (x.tt - x.frm) (x.tt - x.frm) _ w2 (look_reads (hrow.below hb) e1 e2 hch hAd) (by omega) (fun h0 => by
    by_cases hlt : x.frm < x.tt
    · rw [hAd hlt] at h0; cases h0
    · constructor <;> omega))
  clear hA hG HQr hv c0 c2 c3 hi hcap hc hd e1 e2 hch hil hfew hrow
  go_enter Try.func36, Try.ntmps36
  go_wp2_with (first | (go_at_call 32; refine (hF.out).mono ?_; rintro e w1 ⟨rfl, m1, rfl⟩) | (go_at_call 31; refine (hM.out _).mono ?_; rintro e w2 ⟨A, rfl, hA, hb⟩; have HB := Aside0.mk (below_then (pw_below_drewN (Below.refl w.heap.size w) m1) (Nat.le_refl _) hb); clear hb) | (go_at_call 46; refine (HC.out _ _ hA HB.out).mono ?_; rintro e w3 ⟨B, cp, rfl, hN⟩; have HN := Aside0.mk hN; clear hN))
  go_ret2
  exact ⟨B, cp, rfl, HN.out.fits, HN.out.reads, below_then HB.out HB.out.size HN.out.below⟩
end Go.Proofs.Yticbjaclnneaoaa.Arena
