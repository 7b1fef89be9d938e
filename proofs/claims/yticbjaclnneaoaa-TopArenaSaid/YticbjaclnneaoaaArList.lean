/- Arenas: Regions, Chunks, Lost. -/
import Derived.Test.YticbjaclnneaoaaArLook
import Derived.Test.YticbjaclnneaoaaArInts
namespace Go.Proofs.Yticbjaclnneaoaa.Arena
set_option linter.unusedVariables false
open Go.RowKit Go.Proofs.YticbjaclnneaoaaW.PrintWords Go.Proofs.YticbjaclnneaoaaW.PrintLast Go.Proofs.YticbjaclnneaoaaW.PrintMore Go.Proofs.Yticbjaclnneaoaa.Book Go.Proofs.Yticbjaclnneaoaa.Oct
set_option linter.unusedSimpArgs false

theorem infoI : (Try.prog.info? 3).map (fun i => (i.zero, i.size, i.bytes)) = some (some (.int .i64 0), 1, 8) := by kernel_rfl
def nosOf (rs : List Reg) : List Int := rs.map (·.no)
def roomsOf (cs : List Chu) : List Int := cs.map fun c => (c.ys.length : Int)
theorem one_src {W : World} {g : Nat} {v : Value} {t : TypeId} (h : W.heap[g]? = some (.cells #[v] t)) : ∀ j u, ([v] : List Value)[j]? = some u → W.cell? ((⟨g, 0, none⟩ : Addr).add j) = some u := by
  intro j u hj
  have hl := (List.getElem?_eq_some_iff.1 hj).1
  have : j = 0 := by simpa using hl
  subst this
  rw [add_zero', blk_cell h 0]
  simpa using hj

set_option maxHeartbeats 2000000 in
set_option maxRecDepth 100000 in
theorem regionsOf {w : World} {aa p : Nat} {o k s m size : Int} {S : ArS} (hA : ArenaAt w aa p o k s m size S) (hG : Good S) :
    Calls Try.prog 12 #[.pointer (some ⟨aa, 0, none⟩)] w fun e w' => ∃ v, e = .returned v ∧ w'.ownsRow w.heap.size 3 1 v S.rs.length (litsI (nosOf S.rs)) ∧ Below w.heap.size w w' := by
  have HA := Aside0.mk hA
  obtain ⟨h0, h1, h2, h3, h4, h5, h6, h7, h8, h9, h10, h11, h12⟩ := arena_cells hA.head
  obtain ⟨A, cap, hrv, hcap⟩ := own_shape hA.ownR
  rw [hrv] at h8
  have HRV := Lib.hid hrv
  have hfew := hG.fewR
  obtain ⟨f, hf⟩ : ∃ f : Nat → List Value, f = fun n => litsI (nosOf (S.rs.take n)) := ⟨_, rfl⟩
  have h00 : f 0 = [] := by rw [hf]; rfl
  have HF := Lib.hid hf
  obtain ⟨N, hN⟩ : ∃ N, N = S.rs.length := ⟨_, rfl⟩
  have HN := Lib.hid hN
  have HE : Hid (litsI (nosOf S.rs) = f N) := Lib.hid (by rw [hf, hN]; simp)
  rw [HE.out, ← HN.out]
  rw [← hN] at h8 hfew hcap
  have HZ : Aside0 (w.ownsRow w.heap.size 3 1 (.slice none 0 0) 0 (f 0)) := ⟨by rw [h00]; exact ⟨rfl, .inl ⟨rfl, rfl⟩⟩⟩
  clear hA hG h0 h1 h2 h3 h4 h5 h6 h7 h9 h10 h11 h12 hf hN hrv h00
  obtain ⟨i0, hi, hz0, hz1, hz2⟩ := info_parts infoI
  go_enter Try.func12, Try.ntmps12
  go_wp2_with fail
  go_loopw [3, 5, 11] (fun s3 _ i wr => ∃ n : Nat, n ≤ N ∧ i = .int .i64 n ∧ Aside0 (wr.ownsRow w.heap.size 3 1 s3 n (f n)) ∧ Aside0 (Below w.heap.size w wr)) (fun _ _ i _ => N - (intOf i).toNat)
  case atStart => exact ⟨0, Nat.zero_le _, rfl, HZ, ⟨Below.refl _ _⟩⟩
  case round =>
    obtain ⟨n, hn, rfl, HV, HB⟩ := hrel
    by_cases hlt : n < N
    · obtain ⟨c, hc⟩ : ∃ c, S.rs[n]? = some c := ⟨_, List.getElem?_eq_getElem (by rw [← HN.out]; exact hlt)⟩
      have HQr := (HA.out.below HB.out).ownR
      rw [HRV.out, ← HN.out] at HQr
      obtain ⟨g, rfl, c0, c1, c2, c3⟩ := regAt HQr hc
      have hs : f (n + 1) = f n ++ [.int .i64 c.no] := by
        rw [HF.out]; simp only
        rw [take_snoc S.rs n c hc]; simp [nosOf, litsI]
      have HS := Lib.hid hs
      clear hs hc HQr
      go_wp2_with (at_builtin; refine wpList_append_own _ rfl (.tmp 15) (.tmp 18) 25 rfl w.heap.size 3 i0 (.int .i64 0) 1 8 Try.underlying25 hi hz0 hz1 hz2 rfl (by decide) _ n (f n) rfl (by repeat (first | exact HV.out | apply World.ownsRow.alloc | apply World.ownsRow.drew)) _ 1 1 [.int .i64 c.no] rfl rfl (one_src (by exact two_new wr _ _)) (by simp [Value.oneCell']) (by simp only [maxLen]; omega) (by omega) (by have := HB.out.size; simp only [alloc_size]; omega) ?_; intro v' w1 ho hg _; have HO1 := Aside0.mk ho; have HG1 := Aside0.mk hg; clear ho hg)
      go_roundw
      case rel => exact ⟨n + 1, by omega, by go_num, ⟨by rw [HS.out]; exact HO1.out⟩, ⟨pw_below_grown (below_alloc (below_alloc HB.out _) _) _ (by have := HB.out.size; simp only [alloc_size]; omega) HG1.out (fun j hj => own_low HV.out j hj)⟩⟩
      case measure => simp [intOf]; omega
    · obtain rfl : n = N := by omega
      go_wp2_with fail
      go_ret
      exact ⟨_, rfl, HV.out, HB.out⟩
set_option maxHeartbeats 2000000 in
set_option maxRecDepth 100000 in
theorem chunksOf {w : World} {aa p : Nat} {o k s m size : Int} {S : ArS} (hA : ArenaAt w aa p o k s m size S) (hG : Good S) :
    Calls Try.prog 34 #[.pointer (some ⟨aa, 0, none⟩)] w fun e w' => ∃ v, e = .returned v ∧ w'.ownsRow w.heap.size 3 1 v S.cs.length (litsI (roomsOf S.cs)) ∧ Below w.heap.size w w' := by
  have HA := Aside0.mk hA
  obtain ⟨h0, h1, h2, h3, h4, h5, h6, h7, h8, h9, h10, h11, h12⟩ := arena_cells hA.head
  obtain ⟨A, cap, hrv, hcap⟩ := own_shape hA.ownC
  rw [hrv] at h7
  have HRV := Lib.hid hrv
  have hfew := hG.few
  obtain ⟨f, hf⟩ : ∃ f : Nat → List Value, f = fun n => litsI (roomsOf (S.cs.take n)) := ⟨_, rfl⟩
  have h00 : f 0 = [] := by rw [hf]; rfl
  have HF := Lib.hid hf
  obtain ⟨N, hN⟩ : ∃ N, N = S.cs.length := ⟨_, rfl⟩
  have HN := Lib.hid hN
  have HE : Hid (litsI (roomsOf S.cs) = f N) := Lib.hid (by rw [hf, hN]; simp)
  rw [HE.out, ← HN.out]
  rw [← hN] at h7 hfew hcap
  have HZ : Aside0 (w.ownsRow w.heap.size 3 1 (.slice none 0 0) 0 (f 0)) := ⟨by rw [h00]; exact ⟨rfl, .inl ⟨rfl, rfl⟩⟩⟩
  clear hA hG h0 h1 h2 h3 h4 h5 h6 h8 h9 h10 h11 h12 hf hN hrv h00
  obtain ⟨i0, hi, hz0, hz1, hz2⟩ := info_parts infoI
  go_enter Try.func34, Try.ntmps34
  go_wp2_with fail
  go_loopw [3, 5, 11] (fun s3 _ i wr => ∃ n : Nat, n ≤ N ∧ i = .int .i64 n ∧ Aside0 (wr.ownsRow w.heap.size 3 1 s3 n (f n)) ∧ Aside0 (Below w.heap.size w wr)) (fun _ _ i _ => N - (intOf i).toNat)
  case atStart => exact ⟨0, Nat.zero_le _, rfl, HZ, ⟨Below.refl _ _⟩⟩
  case round =>
    obtain ⟨n, hn, rfl, HV, HB⟩ := hrel
    by_cases hlt : n < N
    · obtain ⟨c, hc⟩ : ∃ c, S.cs[n]? = some c := ⟨_, List.getElem?_eq_getElem (by rw [← HN.out]; exact hlt)⟩
      have HQr := (HA.out.below HB.out).ownC
      rw [HRV.out, ← HN.out] at HQr
      obtain ⟨g, rfl, c0⟩ := chuAt HQr hc
      have hs : f (n + 1) = f n ++ [.int .i64 c.ys.length] := by
        rw [HF.out]; simp only
        rw [take_snoc S.cs n c hc]; simp [roomsOf, litsI]
      have HS := Lib.hid hs
      clear hs hc HQr
      go_wp2_with (at_builtin; refine wpList_append_own _ rfl (.tmp 15) (.tmp 18) 25 rfl w.heap.size 3 i0 (.int .i64 0) 1 8 Try.underlying25 hi hz0 hz1 hz2 rfl (by decide) _ n (f n) rfl (by repeat (first | exact HV.out | apply World.ownsRow.alloc | apply World.ownsRow.drew)) _ 1 1 [.int .i64 c.ys.length] rfl rfl (one_src (by exact blk_new wr _)) (by simp [Value.oneCell']) (by simp only [maxLen]; omega) (by omega) (by have := HB.out.size; simp only [alloc_size]; omega) ?_; intro v' w1 ho hg _; have HO1 := Aside0.mk ho; have HG1 := Aside0.mk hg; clear ho hg)
      go_roundw
      case rel => exact ⟨n + 1, by omega, by go_num, ⟨by rw [HS.out]; exact HO1.out⟩, ⟨pw_below_grown (below_alloc HB.out _) _ (by have := HB.out.size; simp only [alloc_size]; omega) HG1.out (fun j hj => own_low HV.out j hj)⟩⟩
      case measure => simp [intOf]; omega
    · obtain rfl : n = N := by omega
      go_wp2_with fail
      go_ret
      exact ⟨_, rfl, HV.out, HB.out⟩
/-- What is lost. -/
def lostOf (S : ArS) : Int := match S.rs.getLast? with
  | none => 0
  | some x => x.tt + aroom (S.cs.take x.ch) - alen S.rs
theorem infoS : (Try.prog.info? 46).map (fun i => (i.zero, i.size, i.bytes)) = some (some (.slice none 0 0), 1, 24) := by kernel_rfl
theorem last_at {rs : List Reg} {n : Nat} (h : rs.length = n + 1) : ∃ x, rs[n]? = some x ∧ rs.getLast? = some x := by
  have : n < rs.length := by omega
  refine ⟨rs[n], List.getElem?_eq_getElem this, ?_⟩
  rw [List.getLast?_eq_getElem?, h]
  exact List.getElem?_eq_getElem this

set_option maxHeartbeats 2000000 in
set_option maxRecDepth 100000 in
theorem lost {w : World} {aa p : Nat} {o k s m size : Int} {S : ArS} (hA : ArenaAt w aa p o k s m size S) (hG : Good S) :
    Calls Try.prog 11 #[.pointer (some ⟨aa, 0, none⟩)] w fun e w' => e = .returned (.int .i64 (lostOf S)) ∧ Below w.heap.size w w' := by
  rcases Nat.eq_zero_or_pos S.rs.length with h00 | hpos
  · have hn : S.rs = [] := List.eq_nil_of_length_eq_zero h00
    have hl : lostOf S = 0 := by unfold lostOf; rw [hn]; rfl
    rw [hl]
    have HL := Aside0.mk (lastNil hA hn)
    clear hA hG h00 hn hl
    go_enter Try.func11, Try.ntmps11
    go_wp2_with (go_at_call 28; refine HL.out.mono ?_; rintro e w1 ⟨rfl, rfl⟩)
    go_ret
    exact ⟨rfl, Below.refl _ _⟩
  · obtain ⟨n, hn⟩ : ∃ n, S.rs.length = n + 1 := ⟨S.rs.length - 1, by omega⟩
    obtain ⟨x, hx, hgl⟩ := last_at hn
    have hl : lostOf S = x.tt + aroom (S.cs.take x.ch) - alen S.rs := by unfold lostOf; rw [hgl]
    rw [hl]
    obtain ⟨A, cap, hrv, hcap⟩ := own_shape hA.ownR
    have HQr := hA.ownR
    rw [hrv] at HQr
    obtain ⟨g, rfl, c0, c1, c2, c3⟩ := regAt HQr hx
    rw [hn] at hrv
    have hfewR := hG.fewR
    have HL := Aside0.mk (lastSome hA (n := n) (by omega) hrv)
    have HLen := Aside0.mk (fun m1 => alenOf (w := w.drewN m1) (hA.frame (fun _ _ => rfl)) hG)
    obtain ⟨h0, h1, h2, h3, h4, h5, h6, h7, h8, h9, h10, h11, h12⟩ := arena_cells hA.head
    obtain ⟨B, bcap, hcv, hbcap⟩ := own_shape hA.ownC
    have HCr := hA.ownC
    rw [hcv] at h7 HCr
    obtain ⟨d, hd, f1, f2⟩ := hG.regs x (List.mem_of_getElem? hx)
    have hdl := (List.getElem?_eq_some_iff.1 hd).1
    have hroom := hG.room
    have hfew := hG.few
    obtain ⟨N, hN⟩ : ∃ N, N = S.cs.length := ⟨_, rfl⟩
    rw [← hN] at h7 hbcap hdl hfew
    have hch := hG.chunk (List.mem_of_getElem? hd)
    have htt : x.tt ≤ 100000 := by omega
    have hlen := hG.len
    obtain ⟨i0, hi, hz0, hz1, hz2⟩ := info_parts infoS
    have hsl := fun W => cut_to (P := Try.prog) 69 46 .i64 Try.underlying69 hi B N bcap x.ch (by omega) (by omega) hbcap W
    obtain ⟨f, hf⟩ : ∃ f : Nat → Nat, f = fun n => aroom (S.cs.take n) := ⟨_, rfl⟩
    have h00 : f 0 = 0 := by rw [hf]; rfl
    have hfb : ∀ j, f j ≤ 100000 := fun j => by rw [hf]; have := aroom_le S.cs j; simp only; omega
    have hfx : aroom (S.cs.take x.ch) = f x.ch := by rw [hf]
    rw [hfx]
    have HF := Lib.hid hf
    have HN := Lib.hid hN
    have HR := Aside0.mk HCr
    obtain ⟨L, hL⟩ : ∃ L, L = alen S.rs := ⟨_, rfl⟩
    rw [← hL] at HLen hlen
    rw [← hL]
    have HG := Aside0.mk hG
    have HFB := Aside0.mk hfb
    clear hA hG hn hx hgl hl hrv HQr h0 h1 h2 h3 h4 h5 h6 h8 h9 h10 h11 h12 hcv HCr hd hroom hf hN hfb hfx hL f1 f2 hch hpos i0 hi hz0 hz1 hz2 c0 hcap hbcap hfewR
    simp only [Int.toNat_natCast] at hsl
    go_enter Try.func11, Try.ntmps11
    go_wp2_with (go_at_call 28; refine HL.out.mono ?_; rintro e w1 ⟨rfl, m1, rfl⟩)
    go_quiet ((fail))
    go_wp2_with fail
    go_loop [4, 6, 27] (fun s4 _ i => ∃ n : Nat, n ≤ x.ch ∧ i = .int .i64 n ∧ s4 = .int .i64 (x.tt + f n)) (fun _ _ i => x.ch - (intOf i).toNat)
    case atStart => exact ⟨0, Nat.zero_le _, rfl, by rw [h00]; simp⟩
    case round =>
      obtain ⟨n, hn, rfl, rfl⟩ := hrel
      by_cases hlt : n < x.ch
      · obtain ⟨c, hc⟩ : ∃ c, S.cs[n]? = some c := ⟨_, List.getElem?_eq_getElem (by rw [← HN.out]; omega)⟩
        have HCn := HR.out
        rw [← HN.out] at HCn
        obtain ⟨g', rfl, c0'⟩ := chuAt HCn hc
        have hs : f (n + 1) = f n + c.ys.length := by
          rw [HF.out]; simp only
          rw [aroom_take S.cs n c hc]
        have hb1 := HFB.out (n + 1)
        have HS := Lib.hid hs
        rw [hs] at hb1
        clear hs hc HCn
        go_wp2_with fail
        go_round
        case rel => exact ⟨_, _, _, ⟨n + 1, by omega, rfl, rfl⟩, by rw [HS.out, Int.natCast_add, Int.add_assoc], rfl, rfl⟩
        case measure => simp [intOf]; omega
      · obtain rfl : n = x.ch := by omega
        have hb1 := HFB.out x.ch
        go_wp2_with (go_at_call 10; refine (HLen.out _).mono ?_; rintro e w1 ⟨rfl, hb⟩)
        go_ret
        exact ⟨rfl, below_then (pw_below_drewN (Below.refl _ _) _) (Nat.le_refl _) hb⟩
end Go.Proofs.Yticbjaclnneaoaa.Arena
