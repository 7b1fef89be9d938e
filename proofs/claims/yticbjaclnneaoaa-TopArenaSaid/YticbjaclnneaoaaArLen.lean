/- Arenas: Room, Len, last. -/
import Derived.Test.YticbjaclnneaoaaArAt
import Derived.Deep.QuietTactic
import Derived.BigQuiet
namespace Go.Proofs.Yticbjaclnneaoaa.Arena
set_option linter.unusedVariables false
open Go.RowKit Go.Proofs.YticbjaclnneaoaaW.PrintWords Go.Proofs.YticbjaclnneaoaaW.PrintLast Go.Proofs.YticbjaclnneaoaaW.PrintMore Go.Proofs.Yticbjaclnneaoaa.Book Go.Proofs.Yticbjaclnneaoaa.Oct
set_option linter.unusedSimpArgs false

/-- The cells of a region. -/
theorem regAt {w : World} {A : Option Addr} {n cap : Nat} {rs : List Reg} (h : w.ownsRow 0 82 4 (.slice A n cap) n (rowsOf Reg.cells rs)) {k : Nat} {x : Reg} (hx : rs[k]? = some x) :
    ∃ g, A = some ⟨g, 0, none⟩ ∧ w.cell? ⟨g, k * 4, none⟩ = some (.int .i64 x.no) ∧ w.cell? ⟨g, k * 4 + 1, none⟩ = some (.int .i64 x.ch) ∧ w.cell? ⟨g, k * 4 + 2, none⟩ = some (.int .i64 x.frm) ∧ w.cell? ⟨g, k * 4 + 3, none⟩ = some (.int .i64 x.tt) := by
  obtain ⟨g, c1, e, hc⟩ := own_at reg4 (by decide) h hx
  injection e with e1 e2 e3
  subst e1
  exact ⟨g, rfl, hc 0 _ rfl, hc 1 _ rfl, hc 2 _ rfl, hc 3 _ rfl⟩
theorem chuAt {w : World} {A : Option Addr} {n cap : Nat} {cs : List Chu} (h : w.ownsRow 0 46 1 (.slice A n cap) n (rowsOf Chu.cells cs)) {k : Nat} {x : Chu} (hx : cs[k]? = some x) :
    ∃ g, A = some ⟨g, 0, none⟩ ∧ w.cell? ⟨g, k, none⟩ = some (.slice (some ⟨x.g, 0, none⟩) x.ys.length x.ys.length) := by
  obtain ⟨g, c1, e, hc⟩ := own_at chu1 (by decide) h hx
  injection e with e1 e2 e3
  subst e1
  refine ⟨g, rfl, ?_⟩
  have := hc 0 _ rfl
  rwa [Nat.mul_one, Nat.add_zero] at this

set_option maxHeartbeats 1000000 in
set_option maxRecDepth 100000 in
theorem alenOf {w : World} {aa p : Nat} {o k s m size : Int} {S : ArS} (hA : ArenaAt w aa p o k s m size S) (hG : Good S) :
    Calls Try.prog 10 #[.pointer (some ⟨aa, 0, none⟩)] w fun e w' => e = .returned (.int .i64 (alen S.rs)) ∧ Below w.heap.size w w' := by
  have HA := Aside0.mk hA
  have HG := Aside0.mk hG
  obtain ⟨h0, h1, h2, h3, h4, h5, h6, h7, h8, h9, h10, h11, h12⟩ := arena_cells hA.head
  obtain ⟨A, cap, hrv, hcap⟩ := own_shape hA.ownR
  rw [hrv] at h8
  have HRV := Lib.hid hrv
  have hfew := hG.fewR
  obtain ⟨f, hf⟩ : ∃ f : Nat → Nat, f = fun n => alen (S.rs.take n) := ⟨_, rfl⟩
  have h00 : f 0 = 0 := by rw [hf]; rfl
  have HF := Lib.hid hf
  obtain ⟨N, hN⟩ : ∃ N, N = S.rs.length := ⟨_, rfl⟩
  have HN := Lib.hid hN
  have HE : Hid (alen S.rs = f N) := Lib.hid (by rw [hf, hN]; simp)
  rw [HE.out]
  rw [← hN] at h8 hfew hcap
  clear hA hG h0 h1 h2 h3 h4 h5 h6 h7 h9 h10 h11 h12 hf hN hrv
  go_enter Try.func10, Try.ntmps10
  go_wp2_with fail
  go_loopw [3, 5, 11] (fun s3 _ i wr => ∃ n : Nat, n ≤ N ∧ i = .int .i64 n ∧ s3 = .int .i64 (f n) ∧ Aside0 (Below w.heap.size w wr)) (fun _ _ i _ => N - (intOf i).toNat)
  case atStart => exact ⟨0, Nat.zero_le _, rfl, by rw [h00]; rfl, ⟨Below.refl _ _⟩⟩
  case round =>
    obtain ⟨n, hn, rfl, rfl, HB⟩ := hrel
    by_cases hlt : n < N
    · obtain ⟨c, hc⟩ : ∃ c, S.rs[n]? = some c := ⟨_, List.getElem?_eq_getElem (by rw [← HN.out]; exact hlt)⟩
      have HQr := (HA.out.below HB.out).ownR
      rw [HRV.out, ← HN.out] at HQr
      obtain ⟨g, rfl, c0, c1, c2, c3⟩ := regAt HQr hc
      obtain ⟨f1, f2⟩ := HG.out.reg (List.mem_of_getElem? hc)
      have hs : f (n + 1) = f n + (c.tt - c.frm) := by
        rw [HF.out]; simp only
        rw [alen_take S.rs n c hc]
      have hle : f (n + 1) ≤ 200000000 := by
        rw [HF.out]; have := HG.out.len; have := alen_le S.rs (n + 1); simp only; omega
      have hle2 := hs ▸ hle
      have HS := Lib.hid hs
      clear hs hc hle HQr
      go_wp2_with fail
      go_round
      case rel => exact ⟨n + 1, by omega, by go_num, by rw [HS.out]; go_num, ⟨below_alloc HB.out _⟩⟩
      case measure => simp [intOf]; omega
    · obtain rfl : n = N := by omega
      go_wp2_with fail
      go_ret
      exact ⟨rfl, HB.out⟩

set_option maxHeartbeats 1000000 in
set_option maxRecDepth 100000 in
theorem aroomOf {w : World} {aa p : Nat} {o k s m size : Int} {S : ArS} (hA : ArenaAt w aa p o k s m size S) (hG : Good S) :
    Calls Try.prog 21 #[.pointer (some ⟨aa, 0, none⟩)] w fun e w' => e = .returned (.int .i64 (aroom S.cs)) ∧ ∃ m, w' = w.drewN m := by
  have HG := Aside0.mk hG
  obtain ⟨h0, h1, h2, h3, h4, h5, h6, h7, h8, h9, h10, h11, h12⟩ := arena_cells hA.head
  obtain ⟨A, cap, hrv, hcap⟩ := own_shape hA.ownC
  have HQr := hA.ownC
  rw [hrv] at h7 HQr
  have hfew := hG.few
  obtain ⟨f, hf⟩ : ∃ f : Nat → Nat, f = fun n => aroom (S.cs.take n) := ⟨_, rfl⟩
  have h00 : f 0 = 0 := by rw [hf]; rfl
  have HF := Lib.hid hf
  obtain ⟨N, hN⟩ : ∃ N, N = S.cs.length := ⟨_, rfl⟩
  have HN := Lib.hid hN
  have HE : Hid (aroom S.cs = f N) := Lib.hid (by rw [hf, hN]; simp)
  rw [HE.out]
  rw [← hN] at h7 hfew hcap HQr
  have HR := Aside0.mk HQr
  clear hA hG h0 h1 h2 h3 h4 h5 h6 h8 h9 h10 h11 h12 hf hN hrv HQr
  go_enter Try.func21, Try.ntmps21
  go_wp2_with fail
  go_loop [3, 5, 11] (fun s3 _ i => ∃ n : Nat, n ≤ N ∧ i = .int .i64 n ∧ s3 = .int .i64 (f n)) (fun _ _ i => N - (intOf i).toNat)
  case atStart => exact ⟨0, Nat.zero_le _, rfl, by rw [h00]; rfl⟩
  case round =>
    obtain ⟨n, hn, rfl, rfl⟩ := hrel
    by_cases hlt : n < N
    · obtain ⟨c, hc⟩ : ∃ c, S.cs[n]? = some c := ⟨_, List.getElem?_eq_getElem (by rw [← HN.out]; exact hlt)⟩
      obtain ⟨g, rfl, c0⟩ := chuAt HR.out hc
      have f1 := HG.out.chunk (List.mem_of_getElem? hc)
      have hs : f (n + 1) = f n + c.ys.length := by
        rw [HF.out]; simp only
        rw [aroom_take S.cs n c hc]
      have hle : f (n + 1) ≤ 100000 := by
        rw [HF.out]; have := HG.out.room; have := aroom_le S.cs (n + 1); simp only; omega
      have hle2 := hs ▸ hle
      have HS := Lib.hid hs
      clear hs hc hle
      go_wp2_with fail
      go_round
      case rel => exact ⟨n + 1, by omega, by go_num, by rw [HS.out]; go_num⟩
      case measure => simp [intOf]; omega
    · obtain rfl : n = N := by omega
      go_wp2_with fail
      go_ret
      exact ⟨rfl, 0, rfl⟩

set_option maxHeartbeats 1000000 in
set_option maxRecDepth 100000 in
theorem lastNil {w : World} {aa p : Nat} {o k s m size : Int} {S : ArS} (hA : ArenaAt w aa p o k s m size S) (h : S.rs = []) :
    Calls Try.prog 28 #[.pointer (some ⟨aa, 0, none⟩)] w fun e w' => e = .returned (.pointer none) ∧ w' = w := by
  obtain ⟨h0, h1, h2, h3, h4, h5, h6, h7, h8, h9, h10, h11, h12⟩ := arena_cells hA.head
  obtain ⟨A, cap, hrv, hcap⟩ := own_shape hA.ownR
  rw [hrv, h] at h8
  simp only [List.length_nil] at h8
  clear hA h0 h1 h2 h3 h4 h5 h6 h7 h9 h10 h11 h12 hrv hcap
  go_enter Try.func28, Try.ntmps28
  go_wp2_with fail
  go_ret
  exact ⟨rfl, rfl⟩
set_option maxHeartbeats 1000000 in
set_option maxRecDepth 100000 in
theorem lastSome {w : World} {aa p : Nat} {o k s m size : Int} {S : ArS} (hA : ArenaAt w aa p o k s m size S) {n g cap : Nat} (hn : n < 2000) (hv : S.rv = .slice (some ⟨g, 0, none⟩) (n + 1) cap) :
    Calls Try.prog 28 #[.pointer (some ⟨aa, 0, none⟩)] w fun e w' => e = .returned (.pointer (some ⟨g, n * 4, none⟩)) ∧ ∃ m, w' = w.drewN m := by
  obtain ⟨h0, h1, h2, h3, h4, h5, h6, h7, h8, h9, h10, h11, h12⟩ := arena_cells hA.head
  rw [hv] at h8
  clear hA h0 h1 h2 h3 h4 h5 h6 h7 h9 h10 h11 h12 hv
  go_enter Try.func28, Try.ntmps28
  go_wp2
  go_quiet ((fail))
  go_wp2
  go_ret
  exact ⟨rfl, _, rfl⟩
end Go.Proofs.Yticbjaclnneaoaa.Arena
