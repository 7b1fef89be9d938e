/- Queues: Push. -/
import Derived.Test.YtmellidlnggldaaPushS
import Derived.Deep.DeepCutAuto
namespace Go.Proofs.Ytmellidlnggldaa.Ring
set_option linter.unusedVariables false
open Go.RowKit Go.Proofs.YtmellidlnggldaaW.PrintWords Go.Proofs.YtmellidlnggldaaW.PrintLast Go.Proofs.YtmellidlnggldaaW.PrintMore Go.Proofs.Ytmellidlnggldaa.Book Go.Proofs.Ytmellidlnggldaa.Oct Go.Proofs.Ytmellidlnggldaa.Pure
set_option linter.unusedSimpArgs false
attribute [local go_sem] Oper.semAt_some

set_option maxHeartbeats 40000000 in
set_option maxRecDepth 100000 in
theorem push {w : World} {qa p : Nat} {o k s m size : Int} {qv : Value} {cs : List Chk} {b : BookS} {q : Parts} (hQ : QueueAt w qa p o k s m size qv cs) (hB : BookAt w p b q) (hok : b.OK) (hsz : 1 ≤ size ∧ size ≤ 100000) (OA : Option Addr) (oc : Nat) (os : List Int) (hos : ReadsInt w .u8 OA os.length os) (hoc : OA = none → os.length = 0 ∧ oc = 0) (hol : os.length ≤ 140737488355328) (hob : ∀ ad, OA = some ad → ¬ q.Foot p ad.block) :
    Calls Try.prog 10 #[.pointer (some ⟨qa, 0, none⟩), .slice OA os.length oc] w fun e w' => ∃ err qv' ks b' q', e = .returned (.int .i64 err) ∧ Pushed w w' qa p o k s m size qv cs os b q err qv' ks b' q' := by
  have HB := Aside0.mk hB
  have HOK := Aside0.mk hok
  have HOS := Aside0.mk hos
  have HOC := Lib.hid hoc
  have HOB := Lib.hid hob
  obtain ⟨A, cap, rfl⟩ := own_shape hQ.own
  have hqlt := hQ.lt (.inl rfl)
  have hfew := hQ.few
  have hlen := hQ.len
  obtain ⟨N, hN⟩ : ∃ N, N = cs.length := ⟨_, rfl⟩
  have HN := Lib.hid hN
  obtain ⟨L, hL⟩ : ∃ L, L = (qout cs).length := ⟨_, rfl⟩
  have HL := Lib.hid hL
  obtain ⟨n, hn⟩ : ∃ n, n = os.length := ⟨_, rfl⟩
  have HNN := Lib.hid hn
  rw [← hn] at hol HOC HOS ⊢
  rw [← hN] at hQ hfew ⊢
  rw [← hL] at hlen
  have HQ := Aside0.mk hQ
  have HB0 := Aside0.mk (show (w.alloc (.cells #[.pointer (some ⟨qa, 0, none⟩)] 34)).heap[w.heap.size]? = some (.cells #[.pointer (some ⟨qa, 0, none⟩)] 34) from blk_new w _)
  have HW0 := Aside0.mk (show Below w.heap.size w (w.alloc (.cells #[.pointer (some ⟨qa, 0, none⟩)] 34)) from below_alloc (Below.refl _ _) _)
  have hc0 : (w.alloc (.cells #[.pointer (some ⟨qa, 0, none⟩)] 34)).cell? ⟨qa, 6, none⟩ = some (.bool false) := old_cell (queue_cells hQ.head).2.2.2.2.2.2.1 HW0.out
  have HB0L : w.heap.size < (w.alloc (.cells #[.pointer (some ⟨qa, 0, none⟩)] 34)).heap.size := by rw [alloc_size]; omega
  clear hQ hB hok hos hoc hob hN hL hn
  let hpost : Exit → Act → World → Prop := bodyPost Try.prog Try.f10 (fun _ _ => True)
  refine calls_of_wp_mark Try.func10 rfl ?_
  simp only [Try.ntmps10, List.size_toArray, List.length_cons, List.length_nil, Nat.reduceAdd, Nat.reduceSub, Array.replicate_succ, Array.replicate_zero, List.push_toArray, List.append_toArray, List.nil_append, List.cons_append]
  go_wp2_with fail
  have HLn := Aside0.mk (qlen (HQ.out.below HW0.out))
  rw [← HL.out] at HLn
  generalize w.alloc (.cells #[.pointer (some ⟨qa, 0, none⟩)] 34) = w0 at *
  refine HLn.out.mono ?_
  rintro e w1 ⟨rfl, hb1⟩
  have HW1 := Aside0.mk (below_then HW0.out HW0.out.size hb1)
  have hx1 := (hb1.block _ HB0L).trans HB0.out
  have hbx := blk_cell hx1 0
  simp at hbx
  have HX1 := Aside0.mk hx1
  have HQ1 := Aside0.mk (HQ.out.below HW1.out)
  obtain ⟨h0, h1, h2, h3, h4, h5, h6, h7⟩ := queue_cells HQ1.out.head
  clear hb1 HLn HB0 HW0 HB0L hx1 hc0
  by_cases hbig : 100000 - L < n
  · have hd : decide ((100000 : Int) - (L : Int) < (n : Int)) = true := decide_eq_true (by omega)
    go_wp2_with fail
    refine markPost_of ?_
    go_ret
    obtain ⟨qv', ks, b', q', hp⟩ := pushed_same (os := os) (err := 4) HQ.out HB.out (by decide) (leaves_same HB.out HW1.out)
    exact ⟨4, qv', ks, b', q', rfl, hp⟩
  · have hd : decide ((100000 : Int) - (L : Int) < (n : Int)) = false := decide_eq_false (by omega)
    have hnb : n ≤ 100000 := by omega
    obtain ⟨sp, hsp⟩ : ∃ sp, sp = spareOf cs n := ⟨_, rfl⟩
    have hspn : sp ≤ n := by rw [hsp]; exact spareOf_le _ _
    have HSP := Lib.hid hsp
    go_upto_if 34 with (fail)
    go_cut [5] (fun s5 wx => s5 = .int .i64 sp ∧ ∃ mm, wx = w1.drewN mm)
    case first =>
      --[[
      as_aux_lemma =>
        by_cases hN0 : N = 0
        · have hs0 : sp = 0 := by
            rw [hsp]
            have : cs = [] := List.eq_nil_of_length_eq_zero (by rw [← HN.out]; exact hN0)
            rw [this]; rfl
          have hd2 : decide (0 < N) = false := decide_eq_false (by omega)
          rw [hd2]
          clear hsp hN0 hd2
          go_wp2_with fail
          go_meet
          exact ⟨by rw [hs0]; rfl, 0, rfl⟩
        · obtain ⟨K, hK⟩ : ∃ K, N = K + 1 := ⟨N - 1, by omega⟩
          have hKc : K < cs.length := by rw [← HN.out]; omega
          obtain ⟨c, hc⟩ : ∃ c, cs[K]? = some c := ⟨_, List.getElem?_eq_getElem hKc⟩
          have hsc : sp = min (c.ys.length - c.tt) n := by
            rw [hsp]
            unfold spareOf
            rw [List.getLast?_eq_getElem?, ← HN.out, hK, Nat.add_sub_cancel, hc]
          obtain ⟨g, rfl, c0, c1, c2⟩ := chunkAt (A := A) (n := N) (cap := cap) (by have := HQ1.out.own; rw [← HN.out] at this; exact this) K c hc
          obtain ⟨f1, f2, f3⟩ := HQ1.out.fits c (List.mem_of_getElem? hc)
          have hK1 : (N : Int) - 1 = (K : Int) := by omega
          have hK2 : K < N := by omega
          have hd2 : decide (0 < N) = true := decide_eq_true (by omega)
          have hm1 : (if (n : Int) < (c.ys.length : Int) - (c.tt : Int) then (n : Int) else (c.ys.length : Int) - (c.tt : Int)) = (sp : Int) := by split <;> omega
          have hm2 : (if (c.ys.length : Int) - (c.tt : Int) < (n : Int) then (c.ys.length : Int) - (c.tt : Int) else (n : Int)) = (sp : Int) := by split <;> omega
          rw [hd2]
          clear hsp hN0 hK hc hsc hKc hd2
          go_wp2_with fail
          go_quiet ((fail))
          go_wp2_with fail
          go_meet
          exact ⟨rfl, _, rfl⟩
      --]]
    case rest =>
      obtain ⟨rfl, m1, rfl⟩ := hcut
      have HQ2 := Aside0.mk (show QueueAt (w1.drewN m1) qa p o k s m size (.slice A N cap) cs from HQ1.out.frame (fun j hj => rfl))
      have HX2 := Aside0.mk (show (w1.drewN m1).heap[w.heap.size]? = some (.cells #[.pointer (some ⟨qa, 0, none⟩)] 34) from HX1.out)
      have HW2 := Aside0.mk (pw_below_drewN HW1.out m1)
      clear h0 h1 h2 h3 h4 h5 h6 h7 hbx hd hsp
      clear HQ1 HX1 HW1
      generalize w1.drewN m1 = w2 at *
      obtain ⟨h0, h1, h2, h3, h4, h5, h6, h7⟩ := queue_cells HQ2.out.head
      have hbx := blk_cell HX2.out 0
      simp at hbx
      obtain ⟨G1, hG1⟩ : ∃ G1, G1 = (rgGrow k s m 0 size).1 := ⟨_, rfl⟩
      obtain ⟨G2, hG2⟩ : ∃ G2, G2 = (rgGrow k s m 0 size).2 := ⟨_, rfl⟩
      have HG := Aside0.mk (fun u : World => grow k s m 0 size u)
      rw [← hG1, ← hG2] at HG
      have HS : Aside0 (∀ u, Below w2.heap.size w2 u → u.cell? ⟨w.heap.size, 0, none⟩ = some (.pointer (some ⟨qa, 0, none⟩)) ∧ u.cell? ⟨qa, 2, none⟩ = some (.int .i64 k) ∧ u.cell? ⟨qa, 3, none⟩ = some (.int .i64 s) ∧ u.cell? ⟨qa, 4, none⟩ = some (.int .i64 m) ∧ u.cell? ⟨qa, 5, none⟩ = some (.int .i64 size)) := ⟨fun u hu => by
        obtain ⟨_, _, a2, a3, a4, a5, _⟩ := queue_cells ((hu.block _ (HQ2.out.lt (.inl rfl))).trans HQ2.out.head)
        exact ⟨(hu.cell (p := ⟨w.heap.size, 0, none⟩) (blk_lt HX2.out)).trans hbx, a2, a3, a4, a5⟩⟩
      have HGA := Lib.hid hG1
      have HGB := Lib.hid hG2
      clear hG1 hG2
      go_wp2_with fail
      go_cut [7, 8] (fun s7 s8 wx => ∃ bs, s7 = .pointer (some ⟨bs, 0, none⟩) ∧ s8 = .int .i64 G2 ∧ Aside0 (wx.heap[bs]? = some (.cells #[.int .i64 G1] 3) ∧ w2.heap.size ≤ bs ∧ Below w2.heap.size w2 wx))
      case first =>
        --[[
        as_aux_lemma =>
          go_region_held3 (fun u => u.cell? ⟨w.heap.size, 0, none⟩ = some (.pointer (some ⟨qa, 0, none⟩)) ∧ u.cell? ⟨qa, 2, none⟩ = some (.int .i64 k) ∧ u.cell? ⟨qa, 3, none⟩ = some (.int .i64 s) ∧ u.cell? ⟨qa, 4, none⟩ = some (.int .i64 m) ∧ u.cell? ⟨qa, 5, none⟩ = some (.int .i64 size)) (first | exact HS.out _ (below_drew (Below.refl _ _)) | exact HS.out _ (below_then (below_drew (Below.refl _ _)) (Nat.le_refl _) HB9.out) | exact HS.out _ (below_alloc (below_then (below_drew (Below.refl _ _)) (Nat.le_refl _) HB9.out) _) | exact HS.out _ (below_drew (below_alloc (Below.refl _ _) _)) | exact HS.out _ (below_then (below_drew (below_alloc (Below.refl _ _) _)) (by show w2.heap.size ≤ (w2.alloc _).heap.size; rw [alloc_size]; omega) HB9.out) | exact HS.out _ ((below_then (below_drew (below_alloc (Below.refl _ _) _)) (by show w2.heap.size ≤ (w2.alloc _).heap.size; rw [alloc_size]; omega) HB9.out).setCell (p := ⟨w2.heap.size, 0, none⟩) (Nat.le_refl _) _)) ((go_at_call 28; refine (HG.out _).mono ?_; rintro e w9 ⟨rfl, hb9⟩; have HB9 := Aside0.mk hb9; (try (have hz9 := alloc_drew_box hb9; have hz1 : w9.cell? ⟨w2.heap.size, 0, none⟩ = some (.int .i64 0) := (by rw [blk_cell hz9]; rfl); have hz2 : w9.frozen? ⟨w2.heap.size, 0, none⟩ = false := blk_frozen hz9 0; have HZ9 := Aside0.mk hz9; clear hz9)); clear hb9))
          all_goals
            go_wp2_with fail
            go_meet
            first
            | exact ⟨_, rfl, rfl, ⟨blk_new w9 _, HB9.out.size, below_alloc (below_then (below_drew (Below.refl _ _)) (Nat.le_refl _) HB9.out) _⟩⟩
            | exact ⟨_, rfl, rfl, ⟨by have := blk_set HZ9.out 0 (.int .i64 G1); simpa using this, Nat.le_refl _, (below_then (below_drew (below_alloc (Below.refl _ _) _)) (by show w2.heap.size ≤ (w2.alloc _).heap.size; rw [alloc_size]; omega) HB9.out).setCell (p := ⟨w2.heap.size, 0, none⟩) (Nat.le_refl _) _⟩⟩
        --]]
      case rest =>
        obtain ⟨bs, rfl, rfl, HBS⟩ := hcut
        have HQ3 := Aside0.mk (HQ2.out.below HBS.out.2.2)
        have HX3 := Aside0.mk ((HBS.out.2.2.block _ (blk_lt HX2.out)).trans HX2.out)
        have HW3 := Aside0.mk (below_then HW2.out HW2.out.size HBS.out.2.2)
        have hbsl : w2.heap.size ≤ bs := HBS.out.2.1
        have HZ3 := Aside0.mk HBS.out.1
        have hne0 : w.heap.size < bs := by have := blk_lt HX2.out; omega
        clear h0 h1 h2 h3 h4 h5 h6 h7 hbx HQ2 HX2 HW2 HS HG
        clear HBS
        generalize wc = w3 at *
        obtain ⟨h0, h1, h2, h3, h4, h5, h6, h7⟩ := queue_cells HQ3.out.head
        have hbx := blk_cell HX3.out 0
        have hbz := blk_cell HZ3.out 0
        simp at hbx hbz
        by_cases hg2 : G2 = 0
        · subst hg2
          obtain ⟨r1, _, _, _, _, _, r2, _⟩ := rg_grow_le k s m 0 size (HGB.out.symm)
          rw [← HGA.out] at r1 r2
          obtain ⟨S, hSG⟩ := Int.eq_ofNat_of_zero_le (show 0 ≤ G1 by omega)
          subst hSG
          have hS1 : 1 ≤ S := by omega
          have hS2 : S ≤ 100000 := by omega
          obtain ⟨M, hM⟩ : ∃ M, M = (n - sp + S - 1) / S := ⟨_, rfl⟩
          have hMu : M * S ≤ n - sp + S - 1 := by rw [hM]; exact Nat.div_mul_le_self _ _
          have hMl : n - sp ≤ M * S := by
            have h9 := Nat.lt_div_mul_add (a := n - sp + S - 1) (show 0 < S by omega)
            rw [← hM] at h9
            omega
          have hMb : M ≤ 200000 := by
            have := Nat.le_mul_of_pos_right M (show 0 < S by omega)
            omega
          have hS0 : ((S : Int) == 0) = false := by simp; omega
          have hS0' : (S == 0) = false := by simp; omega
          have hpos : (0 : Int) < (S : Int) := by omega
          have hq1 : ((n : Int) - (sp : Int) + (S : Int) - 1).tdiv (S : Int) = (M : Int) := by
            rw [Int.tdiv_eq_ediv_of_nonneg (by omega), hM]
            have : (n : Int) - (sp : Int) + (S : Int) - 1 = ((n - sp + S - 1 : Nat) : Int) := by omega
            rw [this]; rfl
          have hq2 : ((n : Int) - (sp : Int) + (S : Int) - 1) / (S : Int) = (M : Int) := by
            rw [← hq1, Int.tdiv_eq_ediv_of_nonneg (by omega)]
          have HM := Lib.hid (And.intro hMu hMl)
          clear hM hMu hMl r1 r2
          by_cases hmany : 500 < N + M
          · have hd3 : decide ((500 : Int) < (N : Int) + (M : Int)) = true := decide_eq_true (by omega)
            go_wp2_with fail
            refine markPost_of ?_
            go_ret
            obtain ⟨qv', ks, b', q', hp⟩ := pushed_same (os := os) (err := 4) HQ.out HB.out (by decide) (leaves_same HB.out HW3.out)
            exact ⟨4, qv', ks, b', q', rfl, hp⟩
          · have hd3 : decide ((500 : Int) < (N : Int) + (M : Int)) = false := decide_eq_false (by omega)
            go_upto_if 91 with (fail)
            obtain ⟨T, hT⟩ : ∃ T, T = M * S := ⟨_, rfl⟩
            have HT := Lib.hid hT
            go_cut [10] (fun _ wx => ∃ b' q', Aside0 (TakenRel w wx qa p o k s m size (.slice A N cap) cs b q bs S T b' q'))
            case first =>
              --[[
              as_aux_lemma =>
                by_cases hM0 : M = 0
                · have hd4 : decide (0 < M) = false := decide_eq_false (by omega)
                  rw [hd4]
                  have hT0 : T = 0 := by rw [hT, hM0, Nat.zero_mul]
                  clear hT hM0 hd4
                  go_wp2_with fail
                  go_meet
                  exact ⟨b, q, ⟨HQ3.out, HB.out.frame (fun j hj => HW3.out.block j (HB.out.lt hj)), Upd.of_below HW3.out, fun j hj => .inl hj, HX3.out, HZ3.out, .inl ⟨hT0, rfl⟩⟩⟩
                · have hd4 : decide (0 < M) = true := decide_eq_true (by omega)
                  rw [hd4]
                  have hT0 : 0 < T := by rw [hT]; exact Nat.mul_pos (by omega) (by omega)
                  have hTb : T ≤ 50000000 := by
                    rw [hT]
                    have := Nat.mul_le_mul (show M ≤ 500 by omega) hS2
                    omega
                  have hTI : (M : Int) * (S : Int) = (T : Int) := by rw [hT]; push_cast; rfl
                  have hw9 : IntKind.i64.wrap ((M : Int) * (S : Int)) = (T : Int) := by rw [hTI]; exact IntWalk.i64_in _ ⟨by omega, by omega⟩
                  have hw8 : wrap64 ((M : Int) * (S : Int)) = (T : Int) := by rw [hTI]; unfold wrap64; omega
                  have hB3 : BookAt w3 p b q := HB.out.frame (fun j hj => HW3.out.block j (HB.out.lt hj))
                  have HB3 := Aside0.mk hB3
                  have hbw : w.heap.size ≤ bs := by omega
                  have HST : Aside0 (∀ (b' : BookS) (u : World), Book.Leaves w3.drew u p q b' → u.cell? ⟨w.heap.size, 0, none⟩ = some (.pointer (some ⟨qa, 0, none⟩)) ∧ u.cell? ⟨bs, 0, none⟩ = some (.int .i64 (S : Int)) ∧ u.cell? ⟨qa, 0, none⟩ = some (.pointer (some ⟨p, 0, none⟩)) ∧ u.cell? ⟨qa, 1, none⟩ = some (.int .i64 o)) := ⟨fun b' u ⟨q', _, hu, _⟩ => by
                    have hu' : Upd (q.Foot p) w3.drew u := hu
                    have nf : ∀ j, w.heap.size ≤ j → ¬ q.Foot p j := fun j hj hk => by have := HB.out.lt hk; omega
                    have e1 : u.heap[qa]? = some _ := (hu'.block _ (HQ3.out.lt (.inl rfl)) (HQ3.out.not_book HB3.out (.inl rfl))).trans HQ3.out.head
                    have e2 : u.heap[w.heap.size]? = some _ := (hu'.block _ (blk_lt HX3.out) (nf _ (Nat.le_refl _))).trans HX3.out
                    have e3 : u.heap[bs]? = some _ := (hu'.block _ (blk_lt HZ3.out) (nf _ hbw)).trans HZ3.out
                    obtain ⟨a0, a1, _⟩ := queue_cells e1
                    exact ⟨by rw [blk_cell e2]; rfl, by rw [blk_cell e3]; rfl, a0, a1⟩⟩
                  have hB4 : BookAt w3.drew p b q := hB3.frame (fun j hj => rfl)
                  have HBW := Lib.hid hbw
                  have HT0 := Lib.hid hT0
                  clear hT hM0 hd4 hTI hB3 hbw
                  by_cases he : takeErr b o T = 0
                  · have HC := Aside0.mk (take_ok hB4 HOK.out o T he)
                    clear he hB4
                    go_wp2_with fail
                    go_cut [10] (fun s10 wx => s10 = .int .i64 0 ∧ ∃ b' q', Aside0 (TakenRel w wx qa p o k s m size (.slice A N cap) cs b q bs S T b' q'))
                    case first =>
                      go_region_held3 (fun u => u.cell? ⟨w.heap.size, 0, none⟩ = some (.pointer (some ⟨qa, 0, none⟩)) ∧ u.cell? ⟨bs, 0, none⟩ = some (.int .i64 (S : Int)) ∧ u.cell? ⟨qa, 0, none⟩ = some (.pointer (some ⟨p, 0, none⟩)) ∧ u.cell? ⟨qa, 1, none⟩ = some (.int .i64 o)) (first | exact ⟨hbx, hbz, h0, h1⟩ | exact HST.out _ _ HL.out) ((go_at_call 29; refine HC.out.mono ?_; rintro e w9 ⟨rfl, i, x, i1, i2, i3, i4, i5, hl⟩; have HL := Aside0.mk hl; have HI := Aside0.mk (And.intro i1 (And.intro i2 i5)); clear hl i1 i2 i3 i4 i5))
                      all_goals
                        go_wp2_with fail
                        go_meet
                        obtain ⟨b', q', ht⟩ := taken_of HQ.out HB.out HW3.out HBW.out HX3.out HZ3.out hT0 HI.out (leaves_then HB3.out (below_drew (Below.refl _ _)) HL.out)
                        exact ⟨rfl, b', q', ⟨ht⟩⟩
                    case rest =>
                      obtain ⟨rfl, b', q', ht⟩ := hcut
                      go_wp2_with fail
                      go_meet
                      exact ⟨b', q', ht⟩
                  · have HC := Aside0.mk (take_bad hB4 HOK.out o T he)
                    obtain ⟨E, hE⟩ : ∃ E, E = takeErr b o T := ⟨_, rfl⟩
                    rw [← hE] at HC he
                    have hd5 : (E != 0) = true := by simp [he]
                    have HHE := Lib.hid he
                    clear he hB4 hE
                    go_wp2_with fail
                    go_cut [10] (fun s10 wx => s10 = .int .i64 E ∧ Aside0 (Book.Leaves w wx p q b))
                    case first =>
                      go_region_held3 (fun u => u.cell? ⟨w.heap.size, 0, none⟩ = some (.pointer (some ⟨qa, 0, none⟩)) ∧ u.cell? ⟨bs, 0, none⟩ = some (.int .i64 (S : Int)) ∧ u.cell? ⟨qa, 0, none⟩ = some (.pointer (some ⟨p, 0, none⟩)) ∧ u.cell? ⟨qa, 1, none⟩ = some (.int .i64 o)) (first | exact ⟨hbx, hbz, h0, h1⟩ | exact HST.out _ _ HL.out) ((go_at_call 29; refine HC.out.mono ?_; rintro e w9 ⟨rfl, hl⟩; have HL := Aside0.mk hl; clear hl))
                      all_goals
                        go_wp2_with fail
                        go_meet
                        exact ⟨rfl, ⟨leaves_then HB.out HW3.out (leaves_then HB3.out (below_drew (Below.refl _ _)) HL.out)⟩⟩
                    case rest =>
                      obtain ⟨rfl, HLv⟩ := hcut
                      go_wp2_with fail
                      refine markPost_of ?_
                      go_ret
                      obtain ⟨qv', ks, b', q', hp⟩ := pushed_same (os := os) (err := E) HQ.out HB.out HHE.out HLv.out
                      exact ⟨E, qv', ks, b', q', rfl, hp⟩
              --]]
            case rest =>
              obtain ⟨b1, q1, HTK⟩ := hcut
              clear HX3 HZ3 HW3 HQ3 h0 h1 h2 h3 h4 h5 h6 h7 hbx hbz hd3
              generalize wc = w4 at *
              have HOS4 := Aside0.mk (reads_upd HOS.out HTK.out.upd (fun ad e _ => HOB.out ad e))
              go_wp2_with fail
              refine (clone8 OA n oc os w4 HOS4.out hol HOC.out).mono ?_
              rintro e w5 ⟨PA, pc, rfl, hN⟩
              have HTK5 := Aside0.mk (HTK.out.below hN.below)
              have HPR := Aside0.mk hN.reads
              have hpc := hN.fits
              have HPY : Hid (∀ ad, PA = some ad → ∃ g, ad = ⟨g, 0, none⟩ ∧ w.heap.size ≤ g) := Lib.hid (fun ad e => by
                obtain ⟨g, rfl, hg, _⟩ := hN.young ad e
                have := HTK.out.upd.size
                exact ⟨g, rfl, by omega⟩)
              clear hN HTK HOS4
              go_upto_if 110 with (fail)
              go_cut [12] (fun _ wx => ∃ cs1, Aside0 (SpareRel w wx qa p o k s m size A cap cs b q bs S T b1 q1 os sp PA cs1))
              case first =>
                --[[
                as_aux_lemma =>
                  by_cases hs0 : sp = 0
                  · have hd4 : decide (0 < sp) = false := decide_eq_false (by omega)
                    rw [hd4]
                    have HS0 := Lib.hid hs0
                    clear hd4 hs0
                    go_wp2_with fail
                    go_meet
                    refine ⟨cs, ⟨?_⟩⟩
                    rw [HS0.out]
                    have h1 := HTK5.out
                    have h2 := HPR.out
                    rw [HN.out] at h1
                    rw [HNN.out] at h2
                    exact spare_none h1 h2 HPY.out
                  · have hd4 : decide (0 < sp) = true := decide_eq_true (by omega)
                    rw [hd4]
                    obtain ⟨K, hK⟩ : ∃ K, N = K + 1 := ⟨N - 1, by
                      have : N ≠ 0 := fun e => by
                        have h1 := HSP.out
                        have : cs = [] := List.eq_nil_of_length_eq_zero (by rw [← HN.out]; exact e)
                        rw [this] at h1
                        exact hs0 h1
                      omega⟩
                    have hKc : K < cs.length := by rw [← HN.out]; omega
                    obtain ⟨c, hc⟩ : ∃ c, cs[K]? = some c := ⟨_, List.getElem?_eq_getElem hKc⟩
                    have hsc : sp = min (c.ys.length - c.tt) n := by
                      rw [HSP.out]
                      unfold spareOf
                      rw [List.getLast?_eq_getElem?, ← HN.out, hK, Nat.add_sub_cancel, hc]
                    have hown : w5.ownsRow 0 73 3 (.slice A N cap) N (qcells cs) := by have := HTK5.out.queue.own; rw [← HN.out] at this; exact this
                    obtain ⟨g, rfl, c0, c1, c2⟩ := chunkAt hown K c hc
                    obtain ⟨f1, f2, f3⟩ := HQ.out.fits c (List.mem_of_getElem? hc)
                    obtain ⟨h0, h1, h2, h3, h4, h5, h6, h7⟩ := queue_cells HTK5.out.queue.head
                    have hbx : w5.cell? ⟨w.heap.size, 0, none⟩ = some (.pointer (some ⟨qa, 0, none⟩)) := by rw [blk_cell HTK5.out.bx]; rfl
                    have hK1 : (N : Int) - 1 = (K : Int) := by omega
                    have hK2 : K < N := by omega
                    obtain ⟨D, hD⟩ : ∃ D, D = c.ys.length - c.tt := ⟨_, rfl⟩
                    obtain ⟨A2, hs1, hA2⟩ := sub_from (some ⟨c.g, 0, none⟩) c.ys.length c.ys.length c.tt ↑c.tt rfl f2
                    rw [← hD] at hs1
                    have hs2 := sub_to PA n pc sp ↑sp rfl hspn hpc
                    have hcg : c.g ≠ g := fun e => HQ.out.row_ne (List.mem_of_getElem? hc) (by rw [e]; rfl)
                    have hgl : g < w5.heap.size := own_lt' hown rfl
                    have hfz := hown.frozenAt (K * 3 + 2)
                    have HROW := Aside0.mk (HTK5.out.queue.rows c (List.mem_of_getElem? hc))
                    have hspD : sp ≤ D := by omega
                    have hA2' : A2 = some ⟨c.g, c.tt, none⟩ := by rw [hA2 (by omega)]; simp [add_zero']
                    have HA2 := Lib.hid hA2'
                    have hlt9 : (os.take sp).length = sp := by rw [List.length_take, ← HNN.out]; omega
                    have HLT := Lib.hid hlt9
                    have HFIT : Hid (c.tt + sp ≤ c.ys.length) := Lib.hid (by omega)
                    have HPT := Aside0.mk (HPR.out.take_ sp hspn)
                    have hc2 : w5.cell? ⟨g, K * 3 + 2, none⟩ = some (.int .i64 c.tt) := c2
                    have HGL := Lib.hid hgl
                    have HCG := Lib.hid hcg
                    have HC := Lib.hid hc
                    have HK := Lib.hid hK
                    have hwt : IntKind.i64.wrap ((c.tt : Int) + (sp : Int)) = (c.tt : Int) + (sp : Int) := IntWalk.i64_in _ ⟨by omega, by omega⟩
                    have HDD := Lib.hid hD
                    clear hs0 hd4 hK hKc hc hsc hown c1 c2 hD hA2 hA2' hcg hgl hlt9 h0 h1 h2 h3 h4 h5 h6
                    go_wp2_with fail
                    go_cut [12] (fun s12 wx => s12 = .pointer (some ⟨g, K * 3, none⟩) ∧ ∃ mm, wx = w5.drewN mm)
                    case first =>
                      go_quiet ((fail))
                      go_wp2_with fail
                      go_meet
                      exact ⟨rfl, _, rfl⟩
                    case rest =>
                      obtain ⟨rfl, m9, rfl⟩ := hcut
                      have HTK6 := Aside0.mk (HTK5.out.below (pw_below_drewN (Below.refl _ _) m9))
                      have HPR6 := Aside0.mk (HPR.out.drewN m9)
                      have d0 : (w5.drewN m9).drew.cell? ⟨g, K * 3, none⟩ = some (.slice (some ⟨c.g, 0, none⟩) c.ys.length c.ys.length) := c0
                      have d2 : (w5.drewN m9).drew.cell? ⟨g, K * 3 + 2, none⟩ = some (.int .i64 c.tt) := hc2
                      have df : (w5.drewN m9).drew.frozen? ⟨g, K * 3 + 2, none⟩ = false := hfz
                      have HR6 : Aside0 (Row (w5.drewN m9).drew c.g c.ys) := ⟨HROW.out⟩
                      have HP6 : Aside0 (ReadsInt (w5.drewN m9).drew .u8 PA sp (os.take sp)) := ⟨(HPT.out.drewN m9).drewN 1⟩
                      have hgl6 : g < (w5.drewN m9).drew.heap.size := HGL.out
                      have HGL6 := Lib.hid hgl6
                      clear c0 hc2 hfz hgl6 h7 hbx
                      generalize w5.drewN m9 = w6 at *
                      go_wp2_with fail
                      refine wp_region_held_drew (S := fun u => u.cell? ⟨g, K * 3, none⟩ = some (.slice (some ⟨c.g, 0, none⟩) c.ys.length c.ys.length)) (by kernel_rfl) d0 (fun hHeld => ?_)
                      refine wpAnyH_take (i := 0) (oi := ⟨some 122, _, _, _, _, _⟩) (v := ?_) rfl (by kernel_rfl) (by kernel_rfl) (by kernel_rfl) (fun _ _ _ h => h) (Or.inl ⟨rfl, ?_⟩) (by assumption) ?_
                      rotate_left
                      · (intro w hSw; (try dsimp only at hSw); go_simp; try with_reducible rfl)
                      try simp only [Act.put, List.setIfInBounds_toArray, List.set_cons_zero, List.set_cons_succ]
                      refine wpAnyH_take (i := 1) (oi := ⟨some 123, _, _, _, _, _⟩) (v := ?_) rfl (by kernel_rfl) (by kernel_rfl) (by kernel_rfl) (fun _ _ _ h => h) (Or.inl ⟨rfl, ?_⟩) (by assumption) ?_
                      rotate_left
                      · (intro w hSw; (try dsimp only at hSw); go_simp; try with_reducible rfl)
                      try simp only [Act.put, List.setIfInBounds_toArray, List.set_cons_zero, List.set_cons_succ]
                      refine wpAnyH_take (i := 2) (oi := ⟨some 124, _, _, _, _, _⟩) (v := ?_) rfl (by kernel_rfl) (by kernel_rfl) (by kernel_rfl) (fun _ _ _ h => h) (Or.inl ⟨rfl, ?_⟩) (by assumption) ?_
                      rotate_left
                      · (intro w hSw; (try dsimp only at hSw); go_simp; try with_reducible rfl)
                      try simp only [Act.put, List.setIfInBounds_toArray, List.set_cons_zero, List.set_cons_succ]
                      refine wpAnyH_take (i := 4) (oi := ⟨some 126, _, _, _, _, _⟩) (v := ?_) rfl (by kernel_rfl) (by kernel_rfl) (by kernel_rfl) (fun _ _ _ h => h) (Or.inl ⟨rfl, ?_⟩) (by assumption) ?_
                      rotate_left
                      · (intro w hSw; (try dsimp only at hSw); go_simp; try with_reducible rfl)
                      try simp only [Act.put, List.setIfInBounds_toArray, List.set_cons_zero, List.set_cons_succ]
                      refine wpAnyH_take (i := 5) (oi := ⟨some 127, _, _, _, _, _⟩) (v := ?_) rfl (by kernel_rfl) (by kernel_rfl) (by kernel_rfl) (fun _ _ _ h => h) (Or.inl ⟨rfl, ?_⟩) (by assumption) ?_
                      rotate_left
                      · (intro w hSw; (try dsimp only at hSw); go_simp; try with_reducible rfl)
                      try simp only [Act.put, List.setIfInBounds_toArray, List.set_cons_zero, List.set_cons_succ]
                      refine wpAnyH_take (i := 6) (oi := ⟨some 128, _, _, _, _, _⟩) (v := ?_) rfl (by kernel_rfl) (by kernel_rfl) (by kernel_rfl) (fun _ _ _ h => h) (Or.inl ⟨rfl, ?_⟩) (by assumption) ?_
                      rotate_left
                      · (intro w hSw; (try dsimp only at hSw); go_simp; try with_reducible rfl)
                      try simp only [Act.put, List.setIfInBounds_toArray, List.set_cons_zero, List.set_cons_succ]
                      refine wpAnyH_take (i := 7) (oi := ⟨some 129, _, _, _, _, _⟩) (v := ?_) rfl (by kernel_rfl) (by kernel_rfl) (by kernel_rfl) (fun _ _ _ h => h) (Or.inl ⟨rfl, ?_⟩) (by assumption) ?_
                      rotate_left
                      · (intro w hSw; (try dsimp only at hSw); go_simp; try with_reducible rfl)
                      try simp only [Act.put, List.setIfInBounds_toArray, List.set_cons_zero, List.set_cons_succ]
                      refine wpAnyH_take (i := 8) (oi := ⟨some 130, _, _, _, _, _⟩) (v := ?_) rfl (by kernel_rfl) (by kernel_rfl) (by kernel_rfl) (fun _ _ _ h => h) (Or.inl ⟨rfl, ?_⟩) (by assumption) ?_
                      rotate_left
                      · (intro w hSw; (try dsimp only at hSw); go_simp; try with_reducible rfl)
                      try simp only [Act.put, List.setIfInBounds_toArray, List.set_cons_zero, List.set_cons_succ]
                      refine wpAnyH_take (i := 9) (oi := ⟨some 131, _, _, _, _, _⟩) (v := ?_) rfl (by kernel_rfl) (by kernel_rfl) (by kernel_rfl) (fun _ _ _ h => h) (Or.inl ⟨rfl, ?_⟩) (by assumption) ?_
                      rotate_left
                      · (intro w hSw; (try dsimp only at hSw); go_simp; try with_reducible rfl)
                      try simp only [Act.put, List.setIfInBounds_toArray, List.set_cons_zero, List.set_cons_succ]
                      refine wpAnyH_take (i := 10) (oi := ⟨some 132, _, _, _, _, _⟩) (v := ?_) rfl (by kernel_rfl) (by kernel_rfl) (by kernel_rfl) (fun _ _ _ h => h) (Or.inl ⟨rfl, ?_⟩) (by assumption) ?_
                      rotate_left
                      · (intro w hSw; (try dsimp only at hSw); go_simp; try with_reducible rfl)
                      try simp only [Act.put, List.setIfInBounds_toArray, List.set_cons_zero, List.set_cons_succ]
                      refine wpAnyH_take (i := 13) (oi := ⟨some 135, _, _, _, _, _⟩) (v := ?_) rfl (by kernel_rfl) (by kernel_rfl) (by kernel_rfl) (fun _ _ _ h => h) (Or.inl ⟨rfl, ?_⟩) (by assumption) ?_
                      rotate_left
                      · (intro w hSw; (try dsimp only at hSw); go_simp; try with_reducible rfl)
                      try simp only [Act.put, List.setIfInBounds_toArray, List.set_cons_zero, List.set_cons_succ]
                      refine wpAnyH_take (i := 14) (oi := ⟨some 136, _, _, _, _, _⟩) (v := ?_) rfl (by kernel_rfl) (by kernel_rfl) (by kernel_rfl) (fun _ _ _ h => h) (Or.inl ⟨rfl, ?_⟩) (by assumption) ?_
                      rotate_left
                      · (intro w hSw; (try dsimp only at hSw); go_simp; try with_reducible rfl)
                      try simp only [Act.put, List.setIfInBounds_toArray, List.set_cons_zero, List.set_cons_succ]
                      refine wpAnyH_take (i := 15) (oi := ⟨some 137, _, _, _, _, _⟩) (v := ?_) rfl (by kernel_rfl) (by kernel_rfl) (by kernel_rfl) (fun _ _ _ h => h) (Or.inl ⟨rfl, ?_⟩) (by assumption) ?_
                      rotate_left
                      · (intro w hSw; (try dsimp only at hSw); go_simp; try with_reducible rfl)
                      try simp only [Act.put, List.setIfInBounds_toArray, List.set_cons_zero, List.set_cons_succ]
                      refine wpAnyH_ready (rs := [3, 11]) (by kernel_rfl) (by simp) (AllReadyH.cons (o := ⟨some 125, _, _, _, _, _⟩) rfl (fun K0 hK0 => ?_) (AllReadyH.cons (o := ⟨some 133, _, _, _, _, _⟩) rfl (fun K0 hK0 => ?_) AllReadyH.nil))
                      · go_simp
                        refine hK0.out _ _ d0 (fun hHeld1 => ?_)
                        clear hK0 K0
                        try simp only [Act.put, List.setIfInBounds_toArray, List.set_cons_zero, List.set_cons_succ]
                        refine wpAnyH_ready (rs := [11]) (by kernel_rfl) (by simp) (AllReadyH.cons (o := ⟨some 133, _, _, _, _, _⟩) rfl (fun K0 hK0 => ?_) AllReadyH.nil)
                        go_simp
                        refine hK0.out _ _ d0 (fun hHeld2 => ?_)
                        clear hK0 K0
                        try simp only [Act.put, List.setIfInBounds_toArray, List.set_cons_zero, List.set_cons_succ]
                        refine wpAnyH_take (i := 12) (oi := ⟨some 134, _, _, _, _, _⟩) (v := ?_) rfl (by kernel_rfl) (by kernel_rfl) (by kernel_rfl) (fun _ _ _ h => h) (Or.inl ⟨rfl, ?_⟩) (by assumption) ?_
                        rotate_left
                        · (intro w hSw; (try dsimp only at hSw); go_simp; try with_reducible rfl)
                        try simp only [Act.put, List.setIfInBounds_toArray, List.set_cons_zero, List.set_cons_succ]
                        refine wpAnyH_ready (rs := [16]) (by kernel_rfl) (by simp) (AllReadyH.cons (o := ⟨some 138, _, _, _, _, _⟩) rfl (fun K0 hK0 => ?_) AllReadyH.nil)
                        refine step_copy8 rfl (.tmp 134) (.tmp 137) rfl A2 PA D D sp pc (by rfl) (by rfl) c.g c.tt c.ys (os.take sp) HR6.out (by rw [HLT.out]; exact (Nat.min_eq_left hspD).symm) (fun _ => ⟨HA2.out, by rw [HLT.out]; exact HP6.out⟩) (by rw [HLT.out]; exact HFIT.out) ?_
                        intro w7 HG7 HU7 hz7
                        rw [HLT.out]
                        clear hz7
                        have hb7 := HU7.out.block g HGL6.out (fun e => HCG.out e.symm)
                        have c07 := (World.cell?_of_block (a := ⟨g, K * 3, none⟩) hb7).trans d0
                        have c27 := (World.cell?_of_block (a := ⟨g, K * 3 + 2, none⟩) hb7).trans d2
                        have f27 := (World.frozen?_of_block (a := ⟨g, K * 3 + 2, none⟩) hb7).trans df
                        clear hb7
                        refine hK0.out _ _ c07 (fun hHeld3 => ?_)
                        clear hK0 K0
                        try simp only [Act.put, List.setIfInBounds_toArray, List.set_cons_zero, List.set_cons_succ]
                        refine wpAnyH_take (i := 17) (oi := ⟨some 139, _, _, _, _, _⟩) (v := ?_) rfl (by kernel_rfl) (by kernel_rfl) (by kernel_rfl) (fun _ _ _ h => h) (Or.inl ⟨rfl, ?_⟩) (by assumption) ?_
                        rotate_left
                        · (intro w hSw; (try dsimp only at hSw); go_simp; try with_reducible rfl)
                        try simp only [Act.put, List.setIfInBounds_toArray, List.set_cons_zero, List.set_cons_succ]
                        refine wpAnyH_take (i := 18) (oi := ⟨some 140, _, _, _, _, _⟩) (v := ?_) rfl (by kernel_rfl) (by kernel_rfl) (by kernel_rfl) (fun _ _ _ h => h) (Or.inl ⟨rfl, ?_⟩) (by assumption) ?_
                        rotate_left
                        · (intro w hSw; (try dsimp only at hSw); go_simp; try with_reducible rfl)
                        try simp only [Act.put, List.setIfInBounds_toArray, List.set_cons_zero, List.set_cons_succ]
                        refine wpAnyH_take (i := 19) (oi := ⟨some 141, _, _, _, _, _⟩) (v := ?_) rfl (by kernel_rfl) (by kernel_rfl) (by kernel_rfl) (fun _ _ _ h => h) (Or.inl ⟨rfl, ?_⟩) (by assumption) ?_
                        rotate_left
                        · (intro w hSw; (try dsimp only at hSw); go_simp; try with_reducible rfl)
                        try simp only [Act.put, List.setIfInBounds_toArray, List.set_cons_zero, List.set_cons_succ]
                        refine wpAnyH_ready (rs := [20]) (by kernel_rfl) (by simp) (AllReadyH.cons (o := ⟨none, _, _, _, _, _⟩) rfl (fun K0 hK0 => ?_) AllReadyH.nil)
                        go_simp
                        refine hK0.out _ _ (cell_set_ne c07 (by omega)) (fun hHeld4 => ?_)
                        clear hK0 K0
                        try simp only [Act.put, List.setIfInBounds_toArray, List.set_cons_zero, List.set_cons_succ]
                        refine wpAnyH_done (by kernel_rfl) ?_ _
                        go_wp2_with fail
                        go_meet
                        have h1 := HTK6.out
                        have h2 := HPR6.out
                        have h3 := HQ.out
                        rw [HN.out] at h1 h3
                        rw [HNN.out] at h2
                        obtain ⟨cs1, hs⟩ := spare_some h3 h1 (Nat.le_of_lt hne0) h2 HPY.out (K := K) (sp := sp) (by rw [← HN.out]; exact HK.out.symm) HC.out (by rw [← HNN.out]; exact hspn) HFIT.out (by rw [← HL.out]; omega) HG7.out ((Upd.of_below (S := fun j => j = c.g) (below_drew (Below.refl _ _))).then HU7.out (fun j hj => .inl hj)) rfl
                        exact ⟨cs1, ⟨hs⟩⟩
                      · go_simp
                        refine hK0.out _ _ d0 (fun hHeld5 => ?_)
                        clear hK0 K0
                        try simp only [Act.put, List.setIfInBounds_toArray, List.set_cons_zero, List.set_cons_succ]
                        refine wpAnyH_take (i := 12) (oi := ⟨some 134, _, _, _, _, _⟩) (v := ?_) rfl (by kernel_rfl) (by kernel_rfl) (by kernel_rfl) (fun _ _ _ h => h) (Or.inl ⟨rfl, ?_⟩) (by assumption) ?_
                        rotate_left
                        · (intro w hSw; (try dsimp only at hSw); go_simp; try with_reducible rfl)
                        try simp only [Act.put, List.setIfInBounds_toArray, List.set_cons_zero, List.set_cons_succ]
                        refine wpAnyH_ready (rs := [3, 16]) (by kernel_rfl) (by simp) (AllReadyH.cons (o := ⟨some 125, _, _, _, _, _⟩) rfl (fun K0 hK0 => ?_) (AllReadyH.cons (o := ⟨some 138, _, _, _, _, _⟩) rfl (fun K0 hK0 => ?_) AllReadyH.nil))
                        · go_simp
                          refine hK0.out _ _ d0 (fun hHeld6 => ?_)
                          clear hK0 K0
                          try simp only [Act.put, List.setIfInBounds_toArray, List.set_cons_zero, List.set_cons_succ]
                          refine wpAnyH_ready (rs := [16]) (by kernel_rfl) (by simp) (AllReadyH.cons (o := ⟨some 138, _, _, _, _, _⟩) rfl (fun K0 hK0 => ?_) AllReadyH.nil)
                          refine step_copy8 rfl (.tmp 134) (.tmp 137) rfl A2 PA D D sp pc (by rfl) (by rfl) c.g c.tt c.ys (os.take sp) HR6.out (by rw [HLT.out]; exact (Nat.min_eq_left hspD).symm) (fun _ => ⟨HA2.out, by rw [HLT.out]; exact HP6.out⟩) (by rw [HLT.out]; exact HFIT.out) ?_
                          intro w7 HG7 HU7 hz7
                          rw [HLT.out]
                          clear hz7
                          have hb7 := HU7.out.block g HGL6.out (fun e => HCG.out e.symm)
                          have c07 := (World.cell?_of_block (a := ⟨g, K * 3, none⟩) hb7).trans d0
                          have c27 := (World.cell?_of_block (a := ⟨g, K * 3 + 2, none⟩) hb7).trans d2
                          have f27 := (World.frozen?_of_block (a := ⟨g, K * 3 + 2, none⟩) hb7).trans df
                          clear hb7
                          refine hK0.out _ _ c07 (fun hHeld7 => ?_)
                          clear hK0 K0
                          try simp only [Act.put, List.setIfInBounds_toArray, List.set_cons_zero, List.set_cons_succ]
                          refine wpAnyH_take (i := 17) (oi := ⟨some 139, _, _, _, _, _⟩) (v := ?_) rfl (by kernel_rfl) (by kernel_rfl) (by kernel_rfl) (fun _ _ _ h => h) (Or.inl ⟨rfl, ?_⟩) (by assumption) ?_
                          rotate_left
                          · (intro w hSw; (try dsimp only at hSw); go_simp; try with_reducible rfl)
                          try simp only [Act.put, List.setIfInBounds_toArray, List.set_cons_zero, List.set_cons_succ]
                          refine wpAnyH_take (i := 18) (oi := ⟨some 140, _, _, _, _, _⟩) (v := ?_) rfl (by kernel_rfl) (by kernel_rfl) (by kernel_rfl) (fun _ _ _ h => h) (Or.inl ⟨rfl, ?_⟩) (by assumption) ?_
                          rotate_left
                          · (intro w hSw; (try dsimp only at hSw); go_simp; try with_reducible rfl)
                          try simp only [Act.put, List.setIfInBounds_toArray, List.set_cons_zero, List.set_cons_succ]
                          refine wpAnyH_take (i := 19) (oi := ⟨some 141, _, _, _, _, _⟩) (v := ?_) rfl (by kernel_rfl) (by kernel_rfl) (by kernel_rfl) (fun _ _ _ h => h) (Or.inl ⟨rfl, ?_⟩) (by assumption) ?_
                          rotate_left
                          · (intro w hSw; (try dsimp only at hSw); go_simp; try with_reducible rfl)
                          try simp only [Act.put, List.setIfInBounds_toArray, List.set_cons_zero, List.set_cons_succ]
                          refine wpAnyH_ready (rs := [20]) (by kernel_rfl) (by simp) (AllReadyH.cons (o := ⟨none, _, _, _, _, _⟩) rfl (fun K0 hK0 => ?_) AllReadyH.nil)
                          go_simp
                          refine hK0.out _ _ (cell_set_ne c07 (by omega)) (fun hHeld8 => ?_)
                          clear hK0 K0
                          try simp only [Act.put, List.setIfInBounds_toArray, List.set_cons_zero, List.set_cons_succ]
                          refine wpAnyH_done (by kernel_rfl) ?_ _
                          go_wp2_with fail
                          go_meet
                          have h1 := HTK6.out
                          have h2 := HPR6.out
                          have h3 := HQ.out
                          rw [HN.out] at h1 h3
                          rw [HNN.out] at h2
                          obtain ⟨cs1, hs⟩ := spare_some h3 h1 (Nat.le_of_lt hne0) h2 HPY.out (K := K) (sp := sp) (by rw [← HN.out]; exact HK.out.symm) HC.out (by rw [← HNN.out]; exact hspn) HFIT.out (by rw [← HL.out]; omega) HG7.out ((Upd.of_below (S := fun j => j = c.g) (below_drew (Below.refl _ _))).then HU7.out (fun j hj => .inl hj)) rfl
                          exact ⟨cs1, ⟨hs⟩⟩
                        · refine step_copy8 rfl (.tmp 134) (.tmp 137) rfl A2 PA D D sp pc (by rfl) (by rfl) c.g c.tt c.ys (os.take sp) HR6.out (by rw [HLT.out]; exact (Nat.min_eq_left hspD).symm) (fun _ => ⟨HA2.out, by rw [HLT.out]; exact HP6.out⟩) (by rw [HLT.out]; exact HFIT.out) ?_
                          intro w7 HG7 HU7 hz7
                          rw [HLT.out]
                          clear hz7
                          have hb7 := HU7.out.block g HGL6.out (fun e => HCG.out e.symm)
                          have c07 := (World.cell?_of_block (a := ⟨g, K * 3, none⟩) hb7).trans d0
                          have c27 := (World.cell?_of_block (a := ⟨g, K * 3 + 2, none⟩) hb7).trans d2
                          have f27 := (World.frozen?_of_block (a := ⟨g, K * 3 + 2, none⟩) hb7).trans df
                          clear hb7
                          refine hK0.out _ _ c07 (fun hHeld9 => ?_)
                          clear hK0 K0
                          try simp only [Act.put, List.setIfInBounds_toArray, List.set_cons_zero, List.set_cons_succ]
                          refine wpAnyH_ready (rs := [3]) (by kernel_rfl) (by simp) (AllReadyH.cons (o := ⟨some 125, _, _, _, _, _⟩) rfl (fun K0 hK0 => ?_) AllReadyH.nil)
                          go_simp
                          refine hK0.out _ _ c07 (fun hHeld10 => ?_)
                          clear hK0 K0
                          try simp only [Act.put, List.setIfInBounds_toArray, List.set_cons_zero, List.set_cons_succ]
                          refine wpAnyH_take (i := 17) (oi := ⟨some 139, _, _, _, _, _⟩) (v := ?_) rfl (by kernel_rfl) (by kernel_rfl) (by kernel_rfl) (fun _ _ _ h => h) (Or.inl ⟨rfl, ?_⟩) (by assumption) ?_
                          rotate_left
                          · (intro w hSw; (try dsimp only at hSw); go_simp; try with_reducible rfl)
                          try simp only [Act.put, List.setIfInBounds_toArray, List.set_cons_zero, List.set_cons_succ]
                          refine wpAnyH_take (i := 18) (oi := ⟨some 140, _, _, _, _, _⟩) (v := ?_) rfl (by kernel_rfl) (by kernel_rfl) (by kernel_rfl) (fun _ _ _ h => h) (Or.inl ⟨rfl, ?_⟩) (by assumption) ?_
                          rotate_left
                          · (intro w hSw; (try dsimp only at hSw); go_simp; try with_reducible rfl)
                          try simp only [Act.put, List.setIfInBounds_toArray, List.set_cons_zero, List.set_cons_succ]
                          refine wpAnyH_take (i := 19) (oi := ⟨some 141, _, _, _, _, _⟩) (v := ?_) rfl (by kernel_rfl) (by kernel_rfl) (by kernel_rfl) (fun _ _ _ h => h) (Or.inl ⟨rfl, ?_⟩) (by assumption) ?_
                          rotate_left
                          · (intro w hSw; (try dsimp only at hSw); go_simp; try with_reducible rfl)
                          try simp only [Act.put, List.setIfInBounds_toArray, List.set_cons_zero, List.set_cons_succ]
                          refine wpAnyH_ready (rs := [20]) (by kernel_rfl) (by simp) (AllReadyH.cons (o := ⟨none, _, _, _, _, _⟩) rfl (fun K0 hK0 => ?_) AllReadyH.nil)
                          go_simp
                          refine hK0.out _ _ (cell_set_ne c07 (by omega)) (fun hHeld11 => ?_)
                          clear hK0 K0
                          try simp only [Act.put, List.setIfInBounds_toArray, List.set_cons_zero, List.set_cons_succ]
                          refine wpAnyH_done (by kernel_rfl) ?_ _
                          go_wp2_with fail
                          go_meet
                          have h1 := HTK6.out
                          have h2 := HPR6.out
                          have h3 := HQ.out
                          rw [HN.out] at h1 h3
                          rw [HNN.out] at h2
                          obtain ⟨cs1, hs⟩ := spare_some h3 h1 (Nat.le_of_lt hne0) h2 HPY.out (K := K) (sp := sp) (by rw [← HN.out]; exact HK.out.symm) HC.out (by rw [← HNN.out]; exact hspn) HFIT.out (by rw [← HL.out]; omega) HG7.out ((Upd.of_below (S := fun j => j = c.g) (below_drew (Below.refl _ _))).then HU7.out (fun j hj => .inl hj)) rfl
                          exact ⟨cs1, ⟨hs⟩⟩
                --]]
              case rest =>
                obtain ⟨cs1, HSR⟩ := hcut
                clear HTK5 HPR
                generalize wc = w6 at *
                obtain ⟨A2, hs1, hA2⟩ := sub_from PA n pc sp ↑sp rfl hspn
                have hbz : w6.cell? ⟨bs, 0, none⟩ = some (.int .i64 (S : Int)) := by rw [blk_cell HSR.out.bz]; rfl
                have hbzd : w6.drew.cell? ⟨bs, 0, none⟩ = some (.int .i64 (S : Int)) := hbz
                have HBZ : Aside0 (∀ u, Below w6.drew.heap.size w6.drew u → u.cell? ⟨bs, 0, none⟩ = some (.int .i64 (S : Int))) := ⟨fun u hu => (hu.cell (p := ⟨bs, 0, none⟩) (blk_lt HSR.out.bz)).trans hbz⟩
                have HA2 := Lib.hid hA2
                clear hA2
                go_wp2_with fail
                go_cut [146] (fun s146 wx => s146 = .func (.func 45) #[] #[.pointer (some ⟨w6.heap.size, 0, none⟩), .pointer (some ⟨w6.heap.size + 1, 0, none⟩)] ∧ Aside0 (Boxes wx w6.heap.size (w6.heap.size + 1) A2 (n - sp) (pc - sp) S ∧ Below w6.heap.size w6 wx ∧ wx.heap.size = w6.heap.size + 2))
                case first =>
                  go_region_held3 (fun u => u.cell? ⟨bs, 0, none⟩ = some (.int .i64 (S : Int))) (first | exact hbzd | exact HBZ.out _ HC9.out.2.1) ((go_at_call 30; refine (chunkOf A2 (n - sp) (pc - sp) S (by omega) _).mono ?_; rintro e w9 ⟨rfl, a1, a2, a3⟩; have HC9 := Aside0.mk (And.intro a1 (And.intro a2 a3)); clear a1 a2 a3))
                  all_goals
                    go_wp2_with fail
                    go_meet
                    exact ⟨rfl, ⟨HC9.out.1, below_then (below_drew (Below.refl _ _)) (Nat.le_refl _) HC9.out.2.1, HC9.out.2.2⟩⟩
                case rest =>
                  obtain ⟨rfl, HC⟩ := hcut
                  generalize wc = w7 at *
                  have HSR7 := Aside0.mk (HSR.out.below HC.out.2.1)
                  have hsz7 := HC.out.2.2
                  have hbsl7 : w6.heap.size ≤ w7.heap.size := by omega
                  have HQD : Hid (T = M * S ∧ n - sp ≤ M * S) := Lib.hid ⟨HT.out, HM.out.2⟩
                  have hM2 : M * S < n - sp + S := by have := HM.out.1; omega
                  have hM1 := HM.out.2
                  have HA3 : Hid (n = os.length) := HNN
                  go_wp2_with fail
                  refine (wpIn_wide (n := 3)).1 ?_
                  refine wpIn_rangeFunc_ownF (F := Fence.wide) rfl (by omega) (gf := 45) (lb := #[.pointer (some ⟨w6.heap.size, 0, none⟩), .pointer (some ⟨w6.heap.size + 1, 0, none⟩)]) rfl trivial (enters_of Try.func45 (by kernel_rfl) rfl) (chunks_stops 2 (by omega) w6.heap.size (w6.heap.size + 1) A2 (n - sp) (pc - sp) S M (by omega) hS2 (by omega) (by omega) hM1 hM2 w7 (by omega) (by omega) HC.out.1) keepB_t (fun W l o o' _ h ho _ => keepB_b W l o o' h ho) (Below.refl _ _) (fun _ => rfl) (fun (pre : List (Fin M)) W => ∃ qv ks, PushRel w7 W qa p o k s m size (.slice A cs.length cap) cs1 (os.drop sp) S M pre qv ks) (fun _ _ _ => False) (push_own _ _ _ _ _ _ _ _ _ _ _ _ _) (fun _ _ _ _ _ hs _ _ => hs) ⟨_, [], push_start HSR7.out⟩ ?a1 ?assign ?body ?done ?stop
                  case assign =>
                    intro l x W K hK
                    gi_wp2
                    exact hK
                  case body =>
                    rintro l pre x W ⟨qv, ks, hr⟩ hlt
                    have HRl := Aside0.mk hr
                    have hfl : ∀ j, QFoot qa (.slice A cs.length cap) cs1 j → j < w.heap.size := fun j hj => by
                      have h9 := HQ.out
                      rw [HN.out] at h9
                      exact h9.lt ((qfoot_maps HSR7.out.maps).1 hj)
                    have hbzW : W.cell? ⟨bs, 0, none⟩ = some (.int .i64 (S : Int)) := by
                      rw [World.cell?_of_block (a := ⟨bs, 0, none⟩) (hr.upd.block bs (blk_lt HSR7.out.bz) (fun e => by have := hfl _ e; omega)), blk_cell HSR7.out.bz]
                      rfl
                    have hbxW : W.cell? ⟨w.heap.size, 0, none⟩ = some (.pointer (some ⟨qa, 0, none⟩)) := by
                      rw [World.cell?_of_block (a := ⟨w.heap.size, 0, none⟩) (hr.upd.block w.heap.size (blk_lt HSR7.out.bx) (fun e => by have := hfl _ e; omega)), blk_cell HSR7.out.bx]
                      rfl
                    have HMD := Aside0.mk (made8 S hS2 W)
                    clear hr
                    gi_wp2_with (refine ⟨trivial, ?_⟩; gi_at_call 31; refine (CallsIn.inRound l (callsIn_wide.2 HMD.out)).mono ?_; rintro e w8 ⟨g, rfl, g1, g2, g3⟩; have HG8 := Aside0.mk (And.intro g1 (And.intro g2 g3)); clear g1 g2 g3)
                    have HA9 := Aside0.mk (show Below W.heap.size W w8.drew from below_then HG8.out.2.2 HG8.out.2.2.size (below_drew (Below.refl _ w8)))
                    have HROW9 := Aside0.mk (show Row w8.drew g (List.replicate S 0) from HG8.out.2.1)
                    have hgy := HG8.out.1
                    have hxW : W.heap[w.heap.size]? = some (.cells #[.pointer (some ⟨qa, 0, none⟩)] 34) := (HRl.out.upd.block w.heap.size (blk_lt HSR7.out.bx) (fun e => by have := hfl _ e; omega)).trans HSR7.out.bx
                    obtain ⟨P, hP⟩ : ∃ P, P = pieceL (os.drop sp) S x.val := ⟨_, rfl⟩
                    obtain ⟨fA, fB⟩ := round_facts HRl.out x (g := g) hS2 HGA.out HA9.out hgy HROW9.out hxW P hP
                    have HFA := Aside0.mk fA
                    have HFIN := Aside0.mk fB
                    have h9x : w8.drew.cell? ⟨w.heap.size, 0, none⟩ = some (.pointer (some ⟨qa, 0, none⟩)) := ((HFA.out w8.drew (Upd.refl _ _)).1).1
                    have h97 : w8.drew.cell? ⟨qa, 7, none⟩ = some qv := ((HFA.out w8.drew (Upd.refl _ _)).1).2
                    obtain ⟨A9, cap9, rfl⟩ := own_shape HRl.out.queue.own
                    have hPN : P.length = pieceN (n - sp) S x.val := by rw [hP, pieceL_length, List.length_drop, ← HNN.out]
                    have HPM : Hid (P.length = Nat.min (pieceN (n - sp) S x.val) S) := Lib.hid (by rw [hPN]; unfold pieceN; exact (Nat.min_eq_left (by omega)).symm)
                    have HPF : Hid (0 + P.length ≤ (List.replicate S (0 : Int)).length) := Lib.hid (by rw [hPN]; unfold pieceN; simp; omega)
                    have HLK : Hid ((cs1 ++ ks).length ≤ 1000000) := Lib.hid (by rw [List.length_append, HSR7.out.len, HRl.out.len, ← HN.out]; omega)
                    have hdr : ReadsInt w7 .u8 A2 (n - sp) (os.drop sp) := by
                      have h9 := HSR7.out.put
                      rw [← HNN.out] at h9
                      exact dropR h9 hspn hpc HA2.out
                    have HPR9 : Aside0 (0 < P.length → (some ⟨g, 0, none⟩ : Option Addr) = some ⟨g, 0, none⟩ ∧ ReadsInt w8.drew .u8 (A2.map (·.add (x.val * S))) P.length P) := ⟨fun h0 => ⟨rfl, by
                      have hxs : x.val * S ≤ n - sp := by
                        rw [hPN] at h0
                        unfold pieceN at h0
                        omega
                      have h1 := dropR hdr hxs (show n - sp ≤ pc - sp by omega) (A3 := A2.map (·.add (x.val * S))) (fun _ => rfl)
                      have h2 := h1.take_ P.length (by rw [hPN]; unfold pieceN; omega)
                      have h3 : ((os.drop sp).drop (x.val * S)).take P.length = P := by
                        rw [hP]
                        unfold pieceL
                        rw [List.length_take, List.take_eq_take_iff]
                        omega
                      rw [h3] at h2
                      refine (reads_upd h2 HRl.out.upd (fun ad e _ hf => ?_)).below HA9.out
                      have hlt9 := hfl _ hf
                      have hA2e := HA2.out (by
                        rw [hPN] at h0
                        unfold pieceN at h0
                        omega)
                      rw [hA2e, Option.map_map] at e
                      obtain ⟨pa, hpa, hpe⟩ := Option.map_eq_some_iff.1 e
                      obtain ⟨gp, rfl, hgp⟩ := HPY.out pa hpa
                      have : ad.block = gp := by
                        rw [← hpe]
                        simp [Oct.add_at, add_zero']
                      omega⟩⟩
                    clear hbxW hbzW HG8 HMD fA fB hxW hdr hPN hP
                    have hQB : qa ≠ w.heap.size := by omega
                    have HQB := Lib.hid hQB
                    generalize (cs1 ++ ks).length = NK at *
                    refine wpIn_round_held l _ (by kernel_rfl) (by kernel_rfl) (fun ⟨_, _, h⟩ => h) (S := fun u => u.cell? ⟨w.heap.size, 0, none⟩ = some (.pointer (some ⟨qa, 0, none⟩))) h9x (fun hHeld => ?_)
                    generalize w8.drew = w9 at *
                    refine wpAnyH_take (i := 0) (oi := ⟨some 154, _, _, _, _, _⟩) (v := ?_) rfl (by kernel_rfl) (by kernel_rfl) (by kernel_rfl) (fun _ _ _ h => h) (Or.inl ⟨rfl, ?_⟩) (by assumption) ?_
                    rotate_left
                    · (intro w hSw; (try dsimp only at hSw); go_simp; try with_reducible rfl)
                    try simp only [Act.put, List.setIfInBounds_toArray, List.set_cons_zero, List.set_cons_succ]
                    refine wpAnyH_take (i := 1) (oi := ⟨some 155, _, _, _, _, _⟩) (v := ?_) rfl (by kernel_rfl) (by kernel_rfl) (by kernel_rfl) (fun _ _ _ h => h) (Or.inl ⟨rfl, ?_⟩) (by assumption) ?_
                    rotate_left
                    · (intro w hSw; (try dsimp only at hSw); go_simp; try with_reducible rfl)
                    try simp only [Act.put, List.setIfInBounds_toArray, List.set_cons_zero, List.set_cons_succ]
                    refine wpAnyH_take (i := 2) (oi := ⟨some 156, _, _, _, _, _⟩) (v := ?_) rfl (by kernel_rfl) (by kernel_rfl) (by kernel_rfl) (fun _ _ _ h => h) (Or.inl ⟨rfl, ?_⟩) (by assumption) ?_
                    rotate_left
                    · (intro w hSw; (try dsimp only at hSw); go_simp; try with_reducible rfl)
                    try simp only [Act.put, List.setIfInBounds_toArray, List.set_cons_zero, List.set_cons_succ]
                    refine wpAnyH_take (i := 3) (oi := ⟨some 157, _, _, _, _, _⟩) (v := ?_) rfl (by kernel_rfl) (by kernel_rfl) (by kernel_rfl) (fun _ _ _ h => h) (Or.inl ⟨rfl, ?_⟩) (by assumption) ?_
                    rotate_left
                    · (intro w hSw; (try dsimp only at hSw); go_simp; try with_reducible rfl)
                    try simp only [Act.put, List.setIfInBounds_toArray, List.set_cons_zero, List.set_cons_succ]
                    refine wpAnyH_take (i := 5) (oi := ⟨some 159, _, _, _, _, _⟩) (v := ?_) rfl (by kernel_rfl) (by kernel_rfl) (by kernel_rfl) (fun _ _ _ h => h) (Or.inl ⟨rfl, ?_⟩) (by assumption) ?_
                    rotate_left
                    · (intro w hSw; (try dsimp only at hSw); go_simp; try with_reducible rfl)
                    try simp only [Act.put, List.setIfInBounds_toArray, List.set_cons_zero, List.set_cons_succ]
                    refine wpAnyH_take (i := 6) (oi := ⟨some 160, _, _, _, _, _⟩) (v := ?_) rfl (by kernel_rfl) (by kernel_rfl) (by kernel_rfl) (fun _ _ _ h => h) (Or.inl ⟨rfl, ?_⟩) (by assumption) ?_
                    rotate_left
                    · (intro w hSw; (try dsimp only at hSw); go_simp; try with_reducible rfl)
                    try simp only [Act.put, List.setIfInBounds_toArray, List.set_cons_zero, List.set_cons_succ]
                    refine wpAnyH_take (i := 7) (oi := ⟨some 161, _, _, _, _, _⟩) (v := ?_) rfl (by kernel_rfl) (by kernel_rfl) (by kernel_rfl) (fun _ _ _ h => h) (Or.inl ⟨rfl, ?_⟩) (by assumption) ?_
                    rotate_left
                    · (intro w hSw; (try dsimp only at hSw); go_simp; try with_reducible rfl)
                    try simp only [Act.put, List.setIfInBounds_toArray, List.set_cons_zero, List.set_cons_succ]
                    refine wpAnyH_ready (rs := [4, 8]) (by kernel_rfl) (by simp) (AllReadyH.cons (o := ⟨some 158, _, _, _, _, _⟩) rfl (fun K hK => ?_) (AllReadyH.cons (o := ⟨some 162, _, _, _, _, _⟩) rfl (fun K hK => ?_) AllReadyH.nil))
                    · go_simp
                      refine hK.out _ _ h9x (fun hHeld1 => ?_)
                      clear hK K
                      try simp only [Act.put, List.setIfInBounds_toArray, List.set_cons_zero, List.set_cons_succ]
                      refine wpAnyH_ready (rs := [8]) (by kernel_rfl) (by simp) (AllReadyH.cons (o := ⟨some 162, _, _, _, _, _⟩) rfl (fun K hK => ?_) AllReadyH.nil)
                      refine step_copy8 rfl (.tmp 160) (.tmp 161) rfl (some ⟨g, 0, none⟩) (A2.map (·.add (x.val * S))) S S (pieceN (n - sp) S x.val) (pieceN (n - sp) S x.val) (by rfl) (by rfl) g 0 (List.replicate S 0) P HROW9.out HPM.out HPR9.out HPF.out ?_
                      intro w10 HG10 HU10 hz10; clear hz10
                      have q1 := HFA.out w10 HU10.out
                      have e1 := q1.1.1
                      have e2 := q1.1.2
                      have e4 := fun ob => (q1.2 ob).1
                      have HAO := Aside0.mk (fun ob => (q1.2 ob).2)
                      clear q1
                      refine hK.out _ _ e1 (fun hHeld2 => ?_)
                      clear hK K
                      try simp only [Act.put, List.setIfInBounds_toArray, List.set_cons_zero, List.set_cons_succ]
                      refine wpAnyH_take (i := 9) (oi := ⟨some 163, _, _, _, _, _⟩) (v := ?_) rfl (by kernel_rfl) (by kernel_rfl) (by kernel_rfl) (fun _ _ _ h => h) (Or.inl ⟨rfl, ?_⟩) (by assumption) ?_
                      rotate_left
                      · (intro w hSw; (try dsimp only at hSw); go_simp; try with_reducible rfl)
                      try simp only [Act.put, List.setIfInBounds_toArray, List.set_cons_zero, List.set_cons_succ]
                      refine wpAnyH_ready (rs := [10]) (by kernel_rfl) (by simp) (AllReadyH.cons (o := ⟨some 164, _, _, _, _, _⟩) rfl (fun K hK => ?_) AllReadyH.nil)
                      go_simp
                      refine hK.out _ _ (old_cell e1 (below_alloc (Below.refl _ _) _)) (fun hHeld3 => ?_)
                      clear hK K
                      try simp only [Act.put, List.setIfInBounds_toArray, List.set_cons_zero, List.set_cons_succ]
                      refine wpAnyH_ready (rs := [11]) (by kernel_rfl) (by simp) (AllReadyH.cons (o := ⟨some 165, _, _, _, _, _⟩) rfl (fun K hK => ?_) AllReadyH.nil)
                      refine step_append_own rfl (.tmp 158) (.tmp 164) 65 rfl 73 _ 3 40 Try.underlying65 infoCh rfl (by decide) (by decide) (.slice A9 NK cap9) NK (qcells (cs1 ++ ks)) [.slice (some ⟨g, 0, none⟩) S S, .int .i64 0, .int .i64 (P.length : Int)] (by rfl) w10.heap.size (by rfl) rfl (by simp [Value.oneCell']) (by exact blk_new _ _) (HAO.out _) (by have := HLK.out; omega) ?_
                      intro g1 cap1 w11 ho1 hgr1 hat1
                      have q2 := HFIN.out w10 w11 g1 cap1 _ HG10.out HU10.out ho1 hgr1 hat1
                      have e5 := q2.1
                      have e6 := q2.2.1
                      have e7 := q2.2.2.1
                      have HE8 := Aside0.mk q2.2.2.2
                      clear q2 ho1 hgr1 hat1
                      refine hK.out _ _ e5 (fun hHeld4 => ?_)
                      clear hK K
                      try simp only [Act.put, List.setIfInBounds_toArray, List.set_cons_zero, List.set_cons_succ]
                      refine wpAnyH_take (i := 12) (oi := ⟨some 166, _, _, _, _, _⟩) (v := ?_) rfl (by kernel_rfl) (by kernel_rfl) (by kernel_rfl) (fun _ _ _ h => h) (Or.inl ⟨rfl, ?_⟩) (by assumption) ?_
                      rotate_left
                      · (intro w hSw; (try dsimp only at hSw); go_simp; try with_reducible rfl)
                      try simp only [Act.put, List.setIfInBounds_toArray, List.set_cons_zero, List.set_cons_succ]
                      refine wpAnyH_take (i := 13) (oi := ⟨some 167, _, _, _, _, _⟩) (v := ?_) rfl (by kernel_rfl) (by kernel_rfl) (by kernel_rfl) (fun _ _ _ h => h) (Or.inl ⟨rfl, ?_⟩) (by assumption) ?_
                      rotate_left
                      · (intro w hSw; (try dsimp only at hSw); go_simp; try with_reducible rfl)
                      try simp only [Act.put, List.setIfInBounds_toArray, List.set_cons_zero, List.set_cons_succ]
                      refine wpAnyH_ready (rs := [14]) (by kernel_rfl) (by simp) (AllReadyH.cons (o := ⟨none, _, _, _, _, _⟩) rfl (fun K hK => ?_) AllReadyH.nil)
                      go_simp
                      refine hK.out _ _ (by rw [World.cell?_setCell_far _ _ _ _ HQB.out]; exact e5) (fun hHeld5 => ?_)
                      clear hK K
                      try simp only [Act.put, List.setIfInBounds_toArray, List.set_cons_zero, List.set_cons_succ]
                      refine wpAnyH_done (by kernel_rfl) ?_ _
                      obtain ⟨qv', ks', e9, e10⟩ := HE8.out
                      exact ⟨HRl.out.others e10, HRl.out.boxes e10, qv', ks', e9⟩
                    · refine step_copy8 rfl (.tmp 160) (.tmp 161) rfl (some ⟨g, 0, none⟩) (A2.map (·.add (x.val * S))) S S (pieceN (n - sp) S x.val) (pieceN (n - sp) S x.val) (by rfl) (by rfl) g 0 (List.replicate S 0) P HROW9.out HPM.out HPR9.out HPF.out ?_
                      intro w10 HG10 HU10 hz10; clear hz10
                      have q1 := HFA.out w10 HU10.out
                      have e1 := q1.1.1
                      have e2 := q1.1.2
                      have e4 := fun ob => (q1.2 ob).1
                      have HAO := Aside0.mk (fun ob => (q1.2 ob).2)
                      clear q1
                      refine hK.out _ _ e1 (fun hHeld6 => ?_)
                      clear hK K
                      try simp only [Act.put, List.setIfInBounds_toArray, List.set_cons_zero, List.set_cons_succ]
                      refine wpAnyH_take (i := 9) (oi := ⟨some 163, _, _, _, _, _⟩) (v := ?_) rfl (by kernel_rfl) (by kernel_rfl) (by kernel_rfl) (fun _ _ _ h => h) (Or.inl ⟨rfl, ?_⟩) (by assumption) ?_
                      rotate_left
                      · (intro w hSw; (try dsimp only at hSw); go_simp; try with_reducible rfl)
                      try simp only [Act.put, List.setIfInBounds_toArray, List.set_cons_zero, List.set_cons_succ]
                      refine wpAnyH_ready (rs := [4, 10]) (by kernel_rfl) (by simp) (AllReadyH.cons (o := ⟨some 158, _, _, _, _, _⟩) rfl (fun K hK => ?_) (AllReadyH.cons (o := ⟨some 164, _, _, _, _, _⟩) rfl (fun K hK => ?_) AllReadyH.nil))
                      · go_simp
                        refine hK.out _ _ e1 (fun hHeld7 => ?_)
                        clear hK K
                        try simp only [Act.put, List.setIfInBounds_toArray, List.set_cons_zero, List.set_cons_succ]
                        refine wpAnyH_ready (rs := [10]) (by kernel_rfl) (by simp) (AllReadyH.cons (o := ⟨some 164, _, _, _, _, _⟩) rfl (fun K hK => ?_) AllReadyH.nil)
                        go_simp
                        refine hK.out _ _ (old_cell e1 (below_alloc (Below.refl _ _) _)) (fun hHeld8 => ?_)
                        clear hK K
                        try simp only [Act.put, List.setIfInBounds_toArray, List.set_cons_zero, List.set_cons_succ]
                        refine wpAnyH_ready (rs := [11]) (by kernel_rfl) (by simp) (AllReadyH.cons (o := ⟨some 165, _, _, _, _, _⟩) rfl (fun K hK => ?_) AllReadyH.nil)
                        refine step_append_own rfl (.tmp 158) (.tmp 164) 65 rfl 73 _ 3 40 Try.underlying65 infoCh rfl (by decide) (by decide) (.slice A9 NK cap9) NK (qcells (cs1 ++ ks)) [.slice (some ⟨g, 0, none⟩) S S, .int .i64 0, .int .i64 (P.length : Int)] (by rfl) w10.heap.size (by rfl) rfl (by simp [Value.oneCell']) (by exact blk_new _ _) (HAO.out _) (by have := HLK.out; omega) ?_
                        intro g1 cap1 w11 ho1 hgr1 hat1
                        have q2 := HFIN.out w10 w11 g1 cap1 _ HG10.out HU10.out ho1 hgr1 hat1
                        have e5 := q2.1
                        have e6 := q2.2.1
                        have e7 := q2.2.2.1
                        have HE8 := Aside0.mk q2.2.2.2
                        clear q2 ho1 hgr1 hat1
                        refine hK.out _ _ e5 (fun hHeld9 => ?_)
                        clear hK K
                        try simp only [Act.put, List.setIfInBounds_toArray, List.set_cons_zero, List.set_cons_succ]
                        refine wpAnyH_take (i := 12) (oi := ⟨some 166, _, _, _, _, _⟩) (v := ?_) rfl (by kernel_rfl) (by kernel_rfl) (by kernel_rfl) (fun _ _ _ h => h) (Or.inl ⟨rfl, ?_⟩) (by assumption) ?_
                        rotate_left
                        · (intro w hSw; (try dsimp only at hSw); go_simp; try with_reducible rfl)
                        try simp only [Act.put, List.setIfInBounds_toArray, List.set_cons_zero, List.set_cons_succ]
                        refine wpAnyH_take (i := 13) (oi := ⟨some 167, _, _, _, _, _⟩) (v := ?_) rfl (by kernel_rfl) (by kernel_rfl) (by kernel_rfl) (fun _ _ _ h => h) (Or.inl ⟨rfl, ?_⟩) (by assumption) ?_
                        rotate_left
                        · (intro w hSw; (try dsimp only at hSw); go_simp; try with_reducible rfl)
                        try simp only [Act.put, List.setIfInBounds_toArray, List.set_cons_zero, List.set_cons_succ]
                        refine wpAnyH_ready (rs := [14]) (by kernel_rfl) (by simp) (AllReadyH.cons (o := ⟨none, _, _, _, _, _⟩) rfl (fun K hK => ?_) AllReadyH.nil)
                        go_simp
                        refine hK.out _ _ (by rw [World.cell?_setCell_far _ _ _ _ HQB.out]; exact e5) (fun hHeld10 => ?_)
                        clear hK K
                        try simp only [Act.put, List.setIfInBounds_toArray, List.set_cons_zero, List.set_cons_succ]
                        refine wpAnyH_done (by kernel_rfl) ?_ _
                        obtain ⟨qv', ks', e9, e10⟩ := HE8.out
                        exact ⟨HRl.out.others e10, HRl.out.boxes e10, qv', ks', e9⟩
                      · go_simp
                        refine hK.out _ _ (old_cell e1 (below_alloc (Below.refl _ _) _)) (fun hHeld11 => ?_)
                        clear hK K
                        try simp only [Act.put, List.setIfInBounds_toArray, List.set_cons_zero, List.set_cons_succ]
                        refine wpAnyH_ready (rs := [4]) (by kernel_rfl) (by simp) (AllReadyH.cons (o := ⟨some 158, _, _, _, _, _⟩) rfl (fun K hK => ?_) AllReadyH.nil)
                        go_simp
                        refine hK.out _ _ (old_cell e1 (below_alloc (Below.refl _ _) _)) (fun hHeld12 => ?_)
                        clear hK K
                        try simp only [Act.put, List.setIfInBounds_toArray, List.set_cons_zero, List.set_cons_succ]
                        refine wpAnyH_ready (rs := [11]) (by kernel_rfl) (by simp) (AllReadyH.cons (o := ⟨some 165, _, _, _, _, _⟩) rfl (fun K hK => ?_) AllReadyH.nil)
                        refine step_append_own rfl (.tmp 158) (.tmp 164) 65 rfl 73 _ 3 40 Try.underlying65 infoCh rfl (by decide) (by decide) (.slice A9 NK cap9) NK (qcells (cs1 ++ ks)) [.slice (some ⟨g, 0, none⟩) S S, .int .i64 0, .int .i64 (P.length : Int)] (by rfl) w10.heap.size (by rfl) rfl (by simp [Value.oneCell']) (by exact blk_new _ _) (HAO.out _) (by have := HLK.out; omega) ?_
                        intro g1 cap1 w11 ho1 hgr1 hat1
                        have q2 := HFIN.out w10 w11 g1 cap1 _ HG10.out HU10.out ho1 hgr1 hat1
                        have e5 := q2.1
                        have e6 := q2.2.1
                        have e7 := q2.2.2.1
                        have HE8 := Aside0.mk q2.2.2.2
                        clear q2 ho1 hgr1 hat1
                        refine hK.out _ _ e5 (fun hHeld13 => ?_)
                        clear hK K
                        try simp only [Act.put, List.setIfInBounds_toArray, List.set_cons_zero, List.set_cons_succ]
                        refine wpAnyH_take (i := 12) (oi := ⟨some 166, _, _, _, _, _⟩) (v := ?_) rfl (by kernel_rfl) (by kernel_rfl) (by kernel_rfl) (fun _ _ _ h => h) (Or.inl ⟨rfl, ?_⟩) (by assumption) ?_
                        rotate_left
                        · (intro w hSw; (try dsimp only at hSw); go_simp; try with_reducible rfl)
                        try simp only [Act.put, List.setIfInBounds_toArray, List.set_cons_zero, List.set_cons_succ]
                        refine wpAnyH_take (i := 13) (oi := ⟨some 167, _, _, _, _, _⟩) (v := ?_) rfl (by kernel_rfl) (by kernel_rfl) (by kernel_rfl) (fun _ _ _ h => h) (Or.inl ⟨rfl, ?_⟩) (by assumption) ?_
                        rotate_left
                        · (intro w hSw; (try dsimp only at hSw); go_simp; try with_reducible rfl)
                        try simp only [Act.put, List.setIfInBounds_toArray, List.set_cons_zero, List.set_cons_succ]
                        refine wpAnyH_ready (rs := [14]) (by kernel_rfl) (by simp) (AllReadyH.cons (o := ⟨none, _, _, _, _, _⟩) rfl (fun K hK => ?_) AllReadyH.nil)
                        go_simp
                        refine hK.out _ _ (by rw [World.cell?_setCell_far _ _ _ _ HQB.out]; exact e5) (fun hHeld14 => ?_)
                        clear hK K
                        try simp only [Act.put, List.setIfInBounds_toArray, List.set_cons_zero, List.set_cons_succ]
                        refine wpAnyH_done (by kernel_rfl) ?_ _
                        obtain ⟨qv', ks', e9, e10⟩ := HE8.out
                        exact ⟨HRl.out.others e10, HRl.out.boxes e10, qv', ks', e9⟩
                  case done =>
                    rintro D xs W hD rfl ⟨qv, ks, hr⟩ hK
                    have hr2 := push_mark hr hD hK
                    have hp := push_done HSR7.out hr2 HQD.out.1 (by rw [← HNN.out]; exact HQD.out.2) (by rw [← HN.out]; omega) (by rw [← HL.out, ← HNN.out]; omega)
                    rw [← HN.out] at hp
                    have HP := Aside0.mk hp
                    have HK := Aside0.mk hK
                    clear hr hr2 hp hK
                    go_wp2_with fail
                    exact .inr ⟨D, rfl, HK.out, _, results_tmp rfl _ _ _, 0, _, _, _, _, rfl, HP.out⟩
                  case stop =>
                    rintro D c pre W _ _ h _
                    exact h.elim
        · have hd2 : (G2 != 0) = true := by simp [hg2]
          go_wp2_with fail
          refine markPost_of ?_
          go_ret
          obtain ⟨qv', ks, b', q', hp⟩ := pushed_same (os := os) (err := G2) HQ.out HB.out hg2 (leaves_same HB.out HW3.out)
          exact ⟨G2, qv', ks, b', q', rfl, hp⟩
end Go.Proofs.Ytmellidlnggldaa.Ring
