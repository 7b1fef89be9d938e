/- Arenas: Take. -/
import Derived.Test.YticbjaclnneaoaaArTook
import Derived.Deep.RegionHeld3
import Derived.Deep.RegionWith
namespace Go.Proofs.Yticbjaclnneaoaa.Arena
set_option linter.unusedVariables false
open Go.RowKit Go.Proofs.YticbjaclnneaoaaW.PrintWords Go.Proofs.YticbjaclnneaoaaW.PrintLast Go.Proofs.YticbjaclnneaoaaW.PrintMore Go.Proofs.Yticbjaclnneaoaa.Book Go.Proofs.Yticbjaclnneaoaa.Oct Go.Proofs.Yticbjaclnneaoaa.Pure
set_option linter.unusedSimpArgs false

set_option maxHeartbeats 1000000 in
set_option maxRecDepth 100000 in
theorem take_range {w : World} {aa p : Nat} {k s m size : Int} {S : ArS} (hA : ArenaAt w aa p 1 k s m size S) (n al : Int) (h : ¬ ((0 ≤ n ∧ n ≤ 100000) ∧ 1 ≤ al ∧ al ≤ 64)) :
    Calls Try.prog 13 #[.pointer (some ⟨aa, 0, none⟩), .int .i64 n, .int .i64 al] w fun e w' => e = .returned (.tuple #[.int .i64 0, .int .i64 2]) ∧ Below w.heap.size w w' := by
  obtain ⟨h0, h1, h2, h3, h4, h5, h6, h7, h8, h9, h10, h11, h12⟩ := arena_cells hA.head
  clear hA h0 h1 h2 h3 h4 h5 h7 h8 h9 h10 h11 h12
  by_cases hn : 0 ≤ n ∧ n ≤ 100000
  · have hd : decide (0 ≤ n ∧ n ≤ 100000) = true := decide_eq_true hn
    have hd2 : decide (1 ≤ al ∧ al ≤ 64) = false := decide_eq_false (fun e => h ⟨hn, e⟩)
    clear h
    go_enter Try.func13, Try.ntmps13
    go_wp2_with (go_at_call 26; refine (withinA _ _ _ _).mono ?_; rintro e w2 ⟨rfl, m2, rfl⟩; first | rw [hd] | rw [hd2])
    go_ret2
    exact ⟨rfl, pw_below_drewN (Below.refl _ _) _⟩
  · have hd : decide (0 ≤ n ∧ n ≤ 100000) = false := decide_eq_false hn
    clear h
    go_enter Try.func13, Try.ntmps13
    go_wp2_with (go_at_call 26; refine (withinA _ _ _ _).mono ?_; rintro e w2 ⟨rfl, m2, rfl⟩; rw [hd])
    go_ret2
    exact ⟨rfl, pw_below_drewN (Below.refl _ _) _⟩

set_option maxHeartbeats 4000000 in
set_option maxRecDepth 100000 in
theorem takeA {w : World} {aa p : Nat} {k s m : Int} {size : Nat} {S : ArS} {b : BookS} {q : Parts} (hA : ArenaAt w aa p 1 k s m size S) (hG : Good S) (hB : BookAt w p b q) (one : One b (aroom S.cs)) (hs : size ≤ 100000) (hlr : S.lr ≤ 4611686018427387904) (n al : Nat) (hn : n ≤ 100000) (ha1 : 1 ≤ al) (ha2 : al ≤ 64) :
    Calls Try.prog 13 #[.pointer (some ⟨aa, 0, none⟩), .int .i64 n, .int .i64 al] w fun e w' =>
      (∃ err S' b' q', err ≠ 0 ∧ e = .returned (.tuple #[.int .i64 0, .int .i64 err]) ∧ Step w w' aa p k s m size S q S' b' q' ∧ S' = S ∧ b' = b) ∨
      (∃ S' b' q' i bb, e = .returned (.tuple #[.int .i64 ((S.lr + 1 : Nat) : Int), .int .i64 0]) ∧ Step w w' aa p k s m size S q S' b' q' ∧ One b' (aroom S'.cs) ∧ Took S S' n i bb) := by
  have HA := Aside0.mk hA
  have HB := Aside0.mk hB
  have HO := Aside0.mk one
  have HG := Aside0.mk hG
  obtain ⟨h0, h1, h2, h3, h4, h5, h6, h7, h8, h9, h10, h11, h12⟩ := arena_cells hA.head
  obtain ⟨A, cap, hrv, hcap⟩ := own_shape hA.ownR
  rw [hrv] at h8
  have hfewR := hG.fewR
  obtain ⟨N, hN⟩ : ∃ N, N = S.rs.length := ⟨_, rfl⟩
  rw [← hN] at h8 hfewR hcap
  have HN := Lib.hid hN
  have HRV := Lib.hid hrv
  have hd : decide ((0 : Int) ≤ (n : Int) ∧ (n : Int) ≤ 100000) = true := decide_eq_true (by omega)
  have hd2 : decide ((1 : Int) ≤ (al : Int) ∧ (al : Int) ≤ 64) = true := decide_eq_true (by omega)
  have HPl := Aside0.mk (fun (u : World) (hu : Below w.heap.size w u) => place (HA.out.below hu) HG.out n al hn ha1 ha2)
  clear hA hB one hG h0 h1 h2 h3 h4 h5 h7 h9 h11 h12 hrv hN
  by_cases hfull : N = 2000
  · subst hfull
    go_enter Try.func13, Try.ntmps13
    go_wp2_with (go_at_call 26; refine (withinA _ _ _ _).mono ?_; rintro e w2 ⟨rfl, m2, rfl⟩; first | rw [hd] | rw [hd2])
    go_ret2
    exact .inl ⟨4, S, b, q, by decide, rfl, (Step.refl HA.out HB.out).below (pw_below_drewN (Below.refl _ _) _), rfl, rfl⟩
  · have hfne : ((N : Int) == 2000) = false := beq_eq_false_iff_ne.2 (by omega)
    obtain ⟨P, hP⟩ : ∃ P, P = plc S.cs S.rs n al := ⟨_, rfl⟩
    rw [← hP] at HPl
    have HP := Lib.hid hP
    obtain ⟨fl, i0, b0, hsv, hfl, hcase⟩ : ∃ (fl : Bool) (i0 b0 : Nat), spotV S.cs.length n P = #[.int .i64 i0, .int .i64 b0, .int .i64 ((b0 : Int) + (n : Int))] ∧ P.isSome = fl ∧ ((fl = true ∧ P = some (i0, b0)) ∨ (fl = false ∧ P = none ∧ i0 = S.cs.length ∧ b0 = 0)) := by
      cases P with
      | none => exact ⟨false, S.cs.length, 0, by simp [spotV], rfl, .inr ⟨rfl, rfl, rfl, rfl⟩⟩
      | some ib => exact ⟨true, ib.1, ib.2, rfl, rfl, .inl ⟨rfl, rfl⟩⟩
    rw [hsv, hfl] at HPl
    have HC := Aside0.mk hcase
    have HGr := Aside0.mk (fun (u : World) (hu : Below w.heap.size w u) => growA (HA.out.below hu) HG.out (hB_below HB.out hu) HO.out n hn hs)
    clear hP hsv hfl hcase
    go_enter Try.func13, Try.ntmps13
    go_upto_if 40 with (first | (go_at_call 26; refine (withinA _ _ _ _).mono ?_; rintro e w2 ⟨rfl, m2, rfl⟩; first | rw [hd] | rw [hd2]) | (go_at_call 29; refine (HPl.out _ (by exact pw_below_drewN (Below.refl _ _) _)).mono ?_; rintro e w3 ⟨rfl, hb3⟩; have HB3 := Aside0.mk (below_then (pw_below_drewN (Below.refl w.heap.size w) _) (Nat.le_refl _) hb3); clear hb3))
    go_cut [8] (fun s8 wx => ∃ sb S1 b1 q1 c, s8 = .pointer (some ⟨sb, 0, none⟩) ∧ Aside0 (Placed w wx aa p k s m size S q S1 b1 q1 sb n i0 b0 c))
    case first =>
      cases fl with
      | true =>
        go_wp2_with fail
        go_meet
        rcases HC.out with ⟨_, hP⟩ | ⟨h, _⟩
        · obtain ⟨c, hp⟩ := placed_same HA.out HG.out HB.out HO.out ha1 (HP.out.symm.trans hP) HB3.out
          exact ⟨_, S, b, q, c, rfl, ⟨hp⟩⟩
        · cases h
      | false =>
        go_wp2_with fail
        refine (HGr.out _ (below_alloc HB3.out _)).mono ?_
        rintro e w4 (⟨err, q', herr, rfl, hst⟩ | ⟨cv', c, b', q', rfl, hst, hnc, ho', hr', hl'⟩)
        · have hne : (err != 0) = true := bne_iff_ne.2 herr
          have HST := Aside0.mk hst
          have HE := Lib.hid herr
          clear hst herr
          go_wp2_with fail
          go_ret2
          exact .inl ⟨err, S, b, q', HE.out, rfl, ((Step.refl HA.out HB.out).below (below_alloc HB3.out _)).trans HST.out, rfl, rfl⟩
        · rcases HC.out with ⟨h, _⟩ | ⟨_, hP, hi0, hb0⟩
          · cases h
          · have hp := placed_new (i := i0) (bb := b0) HA.out HG.out HB.out HB3.out (HP.out.symm.trans hP) hi0 hb0 hst hnc ho' hr' hl'
            have HPD := Aside0.mk hp
            clear hp hst hnc ho' hr' hl' hi0 hb0 hP
            go_wp2_with fail
            go_meet
            exact ⟨_, _, b', q', c, rfl, HPD⟩
    case rest =>
      obtain ⟨sb, S1, b1, q1, c, rfl, HPd⟩ := hcut
      have HLT : Hid (N < 2000) := Lib.hid (by omega)
      clear h6 h8 h10 hd hd2 HPl HGr hfne
      generalize wc = w4 at *
      obtain ⟨h0, h1, h2, h3, h4, h5, h6, h7, h8, h9, h10, h11, h12⟩ := arena_cells HPd.out.step.arena.head
      obtain ⟨cv1, ks, hS1⟩ := HPd.out.more
      have e_rv : S1.rv = S.rv := by rw [hS1]
      have e_rs : S1.rs = S.rs := by rw [hS1]
      have e_lr : S1.lr = S.lr := by rw [hS1]
      rw [e_rv, HRV.out, ← HN.out] at h8
      rw [e_lr] at h10
      have hf10 : w4.frozen? ⟨aa, 10, none⟩ = false := blk_frozen HPd.out.step.arena.head 10
      have HS1 := Lib.hid hS1
      have HERV := Lib.hid e_rv
      have HERS := Lib.hid e_rs
      have HELR := Lib.hid e_lr
      clear hS1 e_rv e_rs e_lr h0 h1 h2 h3 h4 h5 h6 h7 h9 h11 h12
      obtain ⟨lr, hlrE⟩ : ∃ lr, lr = S.lr := ⟨_, rfl⟩
      rw [← hlrE] at h10 hlr
      have HLR := Lib.hid hlrE
      clear hlrE
      have HQ5 := Aside0.mk (count_step HPd.out.step (lr + 1))
      have hspot5 := blk_far HPd.out.spot (p := ⟨aa, 10, none⟩) (fun e => by
        have h1 := HPd.out.spot
        have h2 := HPd.out.step.arena.head
        rw [show sb = aa from e, h2] at h1
        injection h1 with h1
        injection h1 with _ h1 _
        exact absurd h1 (by decide)) (.int .i64 ((lr + 1 : Nat) : Int))
      have HSP5 := Aside0.mk hspot5
      clear hspot5
      go_upto_region 13 with fail
      have hcast : (lr : Int) + 1 = ((lr + 1 : Nat) : Int) := by omega
      rw [hcast]
      clear h8 h10 hf10 hcast
      generalize w4.setCell ⟨aa, 10, none⟩ (.int .i64 ((lr + 1 : Nat) : Int)) = w5 at *
      obtain ⟨_, _, _, _, _, _, _, _, h8, _, h10, _⟩ := arena_cells HQ5.out.arena.head
      rw [show ({ S1 with lr := lr + 1 } : ArS).rv = Value.slice A N cap by rw [HN.out, ← HRV.out, ← HERV.out]] at h8
      have hla := blk_lt HQ5.out.arena.head
      have hls := blk_lt HSP5.out
      have s0 : w5.cell? ⟨sb, 0, none⟩ = some (.int .i64 i0) := by rw [blk_cell HSP5.out]; rfl
      have s1 : w5.cell? ⟨sb, 1, none⟩ = some (.int .i64 b0) := by rw [blk_cell HSP5.out]; rfl
      have s2 : w5.cell? ⟨sb, 2, none⟩ = some (.int .i64 ((b0 : Int) + (n : Int))) := by rw [blk_cell HSP5.out]; rfl
      have HO5 : Aside0 (w5.ownsRow 0 82 4 (.slice A N cap) N (rowsOf Reg.cells S.rs)) := ⟨by
        have := HQ5.out.arena.ownR
        simp only [HERV.out, HERS.out, HRV.out, ← HN.out] at this
        exact this⟩
      have HKS : Aside0 (∀ u v, Below w5.heap.size w5 u → u.grownBy v (Value.slice A N cap).ownBlock → v.cell? ⟨aa, 8, none⟩ = some (.slice A N cap) ∧ v.frozen? ⟨aa, 8, none⟩ = false) := ⟨fun u v hu hg => by
        have hA := HQ5.out.arena.below hu
        have hn := hA.neR
        simp only [HERV.out, HRV.out, ← HN.out] at hn
        have h1 := blk_grown hA.head hg hn
        obtain ⟨_, _, _, _, _, _, _, _, a8, _⟩ := arena_cells h1
        exact ⟨by rw [a8]; simp only [HERV.out, HRV.out, ← HN.out], blk_frozen h1 8⟩⟩
      go_cut [] (fun wx => ∃ rv3, Aside0 (Step w wx aa p k s m size S q { S1 with lr := lr + 1, rv := rv3, rs := S1.rs ++ [⟨((lr + 1 : Nat) : Int), i0, b0, b0 + n⟩] } b1 q1 ∧ wx.heap[sb]? = some (.cells #[.int .i64 i0, .int .i64 b0, .int .i64 ((b0 : Int) + (n : Int))] 80)))
      case first =>
        go_region_law (refine step_append_own rfl (.tmp 58) (.tmp 65) 70 rfl 82 _ 4 32 Try.underlying70 infoR rfl (by decide) (by decide) (.slice A N cap) N (rowsOf Reg.cells S.rs) [.int .i64 ((lr + 1 : Nat) : Int), .int .i64 i0, .int .i64 b0, .int .i64 ((b0 : Int) + (n : Int))] (by simp [Act.eval]) w5.heap.size (by simp [Act.eval]) rfl (by simp [Value.oneCell']) (by exact blk_new _ _) (by repeat (first | exact HO5.out | apply World.ownsRow.drew | apply World.ownsRow.alloc)) (by omega) ?_; intro g cap1 w6 ho hgr hat; obtain ⟨hc8, hf8⟩ := HKS.out _ w6 (by repeat (first | exact Below.refl _ _ | apply below_alloc | apply below_drew)) hgr; have HO6 := Aside0.mk (And.intro ho (And.intro hgr hat)); clear ho hgr hat)
        all_goals
          go_wp2_with fail
          go_meet
          exact ⟨_, ⟨region_step' HQ5.out (by simp only [HERS.out, ← HN.out]) (by simp only [HERV.out, HRV.out, ← HN.out]) (by repeat (first | exact Below.refl _ _ | apply below_alloc | apply below_drew)) (by simp only [HERS.out]; exact HO6.out.1) HO6.out.2.1 HO6.out.2.2 HSP5.out⟩⟩
      case rest =>
        obtain ⟨rv3, HQ6⟩ := hcut
        clear s0 s1 s2 h8 h10 HKS HO5 HQ5 HSP5 hla hls hfull
        generalize wc = w6 at *
        have HG3 := Aside0.mk (HPd.out.good.region HPd.out.at_ HPd.out.fits rv3 (by rw [HERS.out, ← HN.out]; exact HLT.out))
        rw [HELR.out, ← HLR.out] at HG3
        obtain ⟨S3, hS3⟩ : ∃ S3 : ArS, S3 = { S1 with lr := lr + 1, rv := rv3, rs := S1.rs ++ [⟨((lr + 1 : Nat) : Int), i0, b0, b0 + n⟩] } := ⟨_, rfl⟩
        have hat3 : S3.cs[i0]? = some c := by rw [hS3]; exact HPd.out.at_
        have hfit := HPd.out.fits
        have hch := HPd.out.good.chunk (List.mem_of_getElem? HPd.out.at_)
        have hil := (List.getElem?_eq_some_iff.1 HPd.out.at_).1
        have hfewC := HPd.out.good.few
        rw [← hS3] at HQ6 HG3
        have HS3 := Lib.hid hS3
        have hM := memoryOf HQ6.out.1.arena hat3 (Nat.le_add_right b0 n) hfit hch (by omega)
        rw [Int.natCast_add, Nat.add_sub_cancel_left] at hM
        have HM := Aside0.mk hM
        have HCL := Aside0.mk (fun (u : World) (A' : Option Addr) (hu : Below w6.heap.size w6 u) (hA' : b0 < b0 + n → A' = some ⟨c.g, b0, none⟩) => clear8 ((HQ6.out.1.arena.below hu).rows c (List.mem_of_getElem? hat3)) hfit hA')
        have HAT := Lib.hid hat3
        have HFIT := Lib.hid hfit
        have s0 : w6.cell? ⟨sb, 0, none⟩ = some (.int .i64 i0) := by rw [blk_cell HQ6.out.2]; rfl
        have s1 : w6.cell? ⟨sb, 1, none⟩ = some (.int .i64 b0) := by rw [blk_cell HQ6.out.2]; rfl
        have s2 : w6.cell? ⟨sb, 2, none⟩ = some (.int .i64 ((b0 : Int) + (n : Int))) := by rw [blk_cell HQ6.out.2]; rfl
        clear hS3 hM hat3 hfit hch hil hfewC
        go_upto_region 15 with (go_at_call 31; refine (HM.out).mono ?_; rintro e w7 ⟨A', rfl, hA', hb7⟩; obtain ⟨w8, hcl, hr8, hu8⟩ := HCL.out w7 A' hb7 hA'; have H8 := Aside0.mk (And.intro hb7 (And.intro hr8 hu8)); clear hA' hb7 hr8 hu8)
        obtain ⟨S4, hS4⟩ : ∃ S4 : ArS, S4 = { S3 with cs := cput S3.cs i0 b0 (List.replicate n 0) } := ⟨_, rfl⟩
        have hQ8 : Step w w8 aa p k s m size S q S4 b1 q1 := by
          have h7 := HQ6.out.1.below H8.out.1
          have hr := H8.out.2.1
          obtain ⟨a1, a2, a3⟩ := h7.arena.wrote (os := List.replicate n 0) HAT.out (by simpa using HFIT.out) (by simpa using hr) H8.out.2.2
          rw [hS4]
          exact h7.arena_only a1 a2 (fun j hj => .inl (a3 j hj))
        have HQ8 := Aside0.mk hQ8
        have HG4 : Aside0 (Good S4) := ⟨by rw [hS4]; exact HG3.out.put HAT.out (by simpa using HFIT.out)⟩
        obtain ⟨_, _, _, _, _, _, _, _, _, _, h10, _, h12⟩ := arena_cells hQ8.arena.head
        have hf12 : w8.frozen? ⟨aa, 12, none⟩ = false := blk_frozen hQ8.arena.head 12
        have HK12 : Aside0 (∀ u, Below w8.heap.size w8 u → u.cell? ⟨aa, 12, none⟩ = some (.int .i64 S4.pk) ∧ u.frozen? ⟨aa, 12, none⟩ = false ∧ u.cell? ⟨aa, 10, none⟩ = some (.int .i64 S4.lr)) := ⟨fun u hu => by
          have h := (HQ8.out.arena.below hu).head
          obtain ⟨_, _, _, _, _, _, _, _, _, _, a10, _, a12⟩ := arena_cells h
          exact ⟨a12, blk_frozen h 12, a10⟩⟩
        have HLen := Aside0.mk (fun (u : World) (hu : Below w8.heap.size w8 u) => alenOf (HQ8.out.arena.below hu) HG4.out)
        obtain ⟨hpk1, hpk2⟩ := HG4.out.pk_len
        have hlr4 : S4.lr = lr + 1 := by rw [hS4, HS3.out]
        rw [hlr4] at h10 HK12
        have HS4 := Lib.hid hS4
        have HPK := Lib.hid hpk2
        obtain ⟨L, hL⟩ : ∃ L, L = alen S4.rs := ⟨_, rfl⟩
        obtain ⟨pk, hpk⟩ : ∃ pk, pk = S4.pk := ⟨_, rfl⟩
        rw [← hL] at HLen hpk1 HPK
        rw [← hpk] at h12 HK12 hpk1 HPK
        obtain ⟨X, hX⟩ : ∃ X, X = max pk L := ⟨_, rfl⟩
        rw [← hX] at HPK hpk1
        clear hQ8 hcl s0 s1 s2 hS4 hpk2 hlr4 hL hpk hX HM HCL
        go_cut [] (fun wx => Aside0 (Step w wx aa p k s m size S q { S4 with pk := X } b1 q1))
        case first =>
          go_region_with (go_at_call 10; refine (HLen.out _ (below_drew (Below.refl _ _))).mono ?_; rintro e w9 ⟨rfl, hb9⟩; obtain ⟨k12, kf12, _⟩ := HK12.out _ (below_then (below_drew (Below.refl _ _)) (Nat.le_refl _) hb9); have HB9 := Aside0.mk hb9; clear hb9)
          all_goals
            go_wp2_with fail
            go_meet
            exact ⟨peak_step (HQ8.out.below (below_then (below_drew (Below.refl _ _)) (Nat.le_refl _) HB9.out)) X⟩
        case rest =>
          clear h10 h12 hf12 HK12 HLen hpk1
          generalize wc = w10 at *
          obtain ⟨_, _, _, _, _, _, _, _, _, _, h10, _, _⟩ := arena_cells hcut.out.arena.head
          have hlr4 : ({ S4 with pk := X } : ArS).lr = lr + 1 := by simp only; rw [HS4.out, HS3.out]
          rw [hlr4] at h10
          clear hlr4
          go_wp2_with fail
          go_ret2
          have h2 : aroom S4.cs = aroom S1.cs := by
            rw [HS4.out]
            simp only
            rw [cput_aroom HAT.out (by simpa using HFIT.out), HS3.out]
          have hone : One b1 (aroom ({ S4 with pk := X } : ArS).cs) := by
            simp only
            rw [h2]
            exact HPd.out.one
          have hT : Took S ({ S4 with pk := X } : ArS) n i0 b0 := took_all HS1.out HLR.out HPd.out.at_ HPd.out.fits HPd.out.behind (HG4.out.pk X HPK.out) (by rw [HS4.out, HS3.out])
          refine .inr ⟨by rw [HLR.out]; rfl, { S4 with pk := X }, ?_⟩
          first
          | exact ⟨b1, q1, hcut.out, hone, i0, b0, hT⟩
          | exact ⟨b1, ⟨q1, hcut.out⟩, hone, i0, b0, hT⟩
end Go.Proofs.Yticbjaclnneaoaa.Arena
