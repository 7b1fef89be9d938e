/- Queues: drop. -/
import Derived.Test.YtmellidlnggldaaPullP
import Derived.Maps.AppendAt
namespace Go.Proofs.Ytmellidlnggldaa.Ring
set_option linter.unusedVariables false
open Go.RowKit Go.Proofs.YtmellidlnggldaaW.PrintWords Go.Proofs.YtmellidlnggldaaW.PrintLast Go.Proofs.YtmellidlnggldaaW.PrintMore Go.Proofs.Ytmellidlnggldaa.Book Go.Proofs.Ytmellidlnggldaa.Oct Go.Proofs.Ytmellidlnggldaa.Pure
set_option linter.unusedSimpArgs false

theorem infoCh : (Try.prog.info? 73).map (fun i => (i.zero, i.size, i.bytes)) = some (some (.agg #[.slice none 0 0, .int .i64 0, .int .i64 0]), 3, 40) := by kernel_rfl
theorem own_base0 {w : World} {base e size n : Nat} {v : Value} {xs : List Value} (h : w.ownsRow base e size v n xs) : w.ownsRow 0 e size v n xs :=
  ⟨h.1, h.2.imp id (fun ⟨g, cap, cur, e1, _, r⟩ => ⟨g, cap, cur, e1, Nat.zero_le _, r⟩)⟩

/-- What drop leaves. -/
structure Dropped (w w' : World) (qa p : Nat) (o k s m size : Int) (cs : List Chk) (b : BookS) (q : Parts) (a : Acc) (qv' : Value) (b' : BookS) (q' : Parts) : Prop where
  queue : QueueAt w' qa p o k s m size qv' (kp cs cs.length)
  young : ∀ j, some j = qv'.ownBlock → w.heap.size ≤ j
  book : BookAt w' p b' q'
  upd : Upd (fun j => j = qa ∨ q.Foot p j) w w'
  foot : ∀ j, q'.Foot p j → q.Foot p j ∨ w.heap.size ≤ j
  gone : (gn cs cs.length = 0 ∧ b' = b) ∨ (0 < gn cs cs.length ∧ ∃ i x, b.accs[i]? = some x ∧ x.1 = o ∧ x.2 = a ∧ b' = b.put i (-(gn cs cs.length : Int)) 4 o (gn cs cs.length : Int))

/-- The queue with the chunks that stay. -/
theorem kept_queue {w wl w' : World} {qa p : Nat} {o k s m size : Int} {qv kv : Value} {cs : List Chk} (hQ : QueueAt w qa p o k s m size qv cs) (hb : Below w.heap.size w wl)
    (hk : wl.ownsRow w.heap.size 73 3 kv (kp cs cs.length).length (qcells (kp cs cs.length))) (he : w' = wl.setCell ⟨qa, 7, none⟩ kv) :
    QueueAt w' qa p o k s m size kv (kp cs cs.length) ∧ (∀ j, some j = kv.ownBlock → w.heap.size ≤ j) ∧ Upd (fun j => j = qa) w w' := by
  subst he
  have hlt := hQ.lt (.inl rfl)
  have hy : ∀ j, some j = kv.ownBlock → w.heap.size ≤ j := fun j hj => own_low hk j hj.symm
  have hu : Upd (fun j => j = qa) w (wl.setCell ⟨qa, 7, none⟩ kv) := Upd.setCell (S := fun j => j = qa) (Upd.of_below hb) ⟨qa, 7, none⟩ (.inl rfl) _
  have hh := (hb.block _ hlt).trans hQ.head
  refine ⟨⟨?_, ?_, fun c hc => ?_, fun c hc => hQ.fits c (kp_mem (Nat.le_refl _) hc), fun c hc => hQ.same c (kp_mem (Nat.le_refl _) hc), ?_, ?_, ?_⟩, hy, hu⟩
  · have := blk_set hh 7 kv
    unfold queueCells
    simpa using this
  · refine own_base0 (own_setCell hk (fun e => ?_) _)
    have := hy _ e
    simp only at this
    omega
  · have hc' := kp_mem (Nat.le_refl _) hc
    refine (hQ.rows c hc').upd hu (fun e => ?_)
    have h1 := hQ.rows c hc'
    unfold Row at h1
    rw [e, hQ.head] at h1
    unfold queueCells at h1
    injection h1 with h1
    injection h1 with _ h1 _
    exact absurd h1 (by decide)
  · have hs := (kp_sub cs cs.length (Nat.le_refl _)).map (·.g)
    rw [List.take_length] at hs
    exact hQ.apart.sublist hs
  · have := kp_len cs cs.length (Nat.le_refl _)
    have := hQ.few
    omega
  · rw [kp_out cs cs.length (Nat.le_refl _), List.take_length]
    exact hQ.len

set_option maxHeartbeats 2000000 in
set_option maxRecDepth 100000 in
theorem qdrop {w : World} {qa p : Nat} {o k s m size : Int} {qv : Value} {cs : List Chk} {b : BookS} {q : Parts} (hQ : QueueAt w qa p o k s m size qv cs) (hB : BookAt w p b q) (hok : b.OK) (ho : 1 ≤ o ∧ o ≤ 40) (a : Acc) (ha : b.acc o = some a) (hr : (qroom cs : Int) ≤ a.held) :
    Calls Try.prog 35 #[.pointer (some ⟨qa, 0, none⟩)] w fun e w' => e = .returned (.tuple #[]) ∧ ∃ qv' b' q', Dropped w w' qa p o k s m size cs b q a qv' b' q' := by
  have HQ := Aside0.mk hQ
  have HB := Aside0.mk hB
  have HOK := Aside0.mk hok
  have HA := Lib.hid ha
  have HRM := Lib.hid hr
  obtain ⟨h0, h1, h2, h3, h4, h5, h6, h7⟩ := queue_cells hQ.head
  obtain ⟨A, cap, rfl⟩ := own_shape hQ.own
  have hqlt := hQ.lt (.inl rfl)
  have hfew := hQ.few
  have hhi : a.held ≤ 10000000 := by
    obtain ⟨i, g, x, i1, i2, _⟩ := M_idx hB o ha
    have := hok.accs x (List.mem_of_getElem? i1)
    rw [i2] at this
    omega
  have hroom : qroom cs ≤ 10000000 := by omega
  obtain ⟨N, hN⟩ : ∃ N, N = cs.length := ⟨_, rfl⟩
  have HN := Lib.hid hN
  have hgn : ∀ n, gn cs n ≤ 10000000 := fun n => Nat.le_trans (gn_le cs n) hroom
  have HGN := Lib.hid hgn
  obtain ⟨i0, hi, hz0, hz1, hz2⟩ := info_parts infoCh
  rw [← hN] at h7 hfew
  clear hQ hB hok ha hr h0 h1 h2 h3 h4 h5 h6 hN hgn hroom hhi
  go_enter Try.func35, Try.ntmps35
  go_wp2_with fail
  go_loopw [2, 3, 4, 5, 11] (fun s2 s3 _ _ i wr => ∃ n : Nat, n ≤ N ∧ i = .int .i64 n ∧ s3 = .int .i64 (gn cs n) ∧ Aside0 (Below w.heap.size w wr) ∧ Aside0 (wr.ownsRow w.heap.size 73 3 s2 (kp cs n).length (qcells (kp cs n)))) (fun _ _ _ _ i _ => N - (intOf i).toNat)
  case atStart => exact ⟨0, Nat.zero_le _, rfl, rfl, ⟨Below.refl _ _⟩, ⟨own_nil _ _ _ _⟩⟩
  case round =>
    obtain ⟨n, hn, rfl, rfl, HW, HK⟩ := hrel
    by_cases hlt : n < N
    · obtain ⟨c, hc⟩ : ∃ c, cs[n]? = some c := ⟨_, List.getElem?_eq_getElem (by rw [← HN.out]; exact hlt)⟩
      have HQr := Aside0.mk (HQ.out.below HW.out)
      obtain ⟨g, rfl, c0, c1, c2⟩ := chunkAt HQr.out.own n c hc
      obtain ⟨f1, f2, f3⟩ := HQ.out.fits c (List.mem_of_getElem? hc)
      have hq7 : wr.cell? ⟨qa, 7, none⟩ = some (.slice (some ⟨g, 0, none⟩) N cap) := (HW.out.cell (p := ⟨qa, 7, none⟩) hqlt).trans h7
      have hsz := HW.out.size
      have hq7b : ∀ ob, (wr.alloc ob).cell? ⟨qa, 7, none⟩ = some (.slice (some ⟨g, 0, none⟩) N cap) := fun ob => old_cell hq7 (below_alloc (Below.refl _ wr) ob)
      have hgn1 := HGN.out n
      by_cases hd : c.frm = c.tt ∧ (c.tt = c.ys.length ∨ n + 1 < N)
      · have hks : kp cs (n + 1) = kp cs n := by rw [kp_succ hc, ← HN.out, if_pos hd]
        have hgs : gn cs (n + 1) = gn cs n + c.ys.length := by rw [gn_succ (by rw [← HN.out]; exact hlt) hc, ← HN.out, if_pos hd]
        have HKS := Lib.hid hks
        have HGS := Lib.hid hgs
        have hb1 : ((c.frm : Int) == (c.tt : Int)) = true := by simp [hd.1]
        have hle := HGN.out (n + 1)
        rw [hgs] at hle
        by_cases hfull : c.tt = c.ys.length
        · have hb2 : ((c.tt : Int) == (c.ys.length : Int)) = true := by simp [hfull]
          clear hc hks hgs hd hfull
          go_wp2_with fail
          go_round
          case rel => exact ⟨n + 1, by omega, by go_num, by rw [HGS.out]; go_num, ⟨below_alloc HW.out _⟩, ⟨by rw [HKS.out]; exact HK.out.alloc _⟩⟩
          case measure => simp [intOf]; omega
        · have hb2 : ((c.tt : Int) == (c.ys.length : Int)) = false := by simp; omega
          have hb3 : decide ((n : Int) < (N : Int) - 1) = true := decide_eq_true (by omega)
          clear hc hks hgs hd hfull
          go_wp2_with fail
          go_round
          case rel => exact ⟨n + 1, by omega, by go_num, by rw [HGS.out]; go_num, ⟨below_alloc HW.out _⟩, ⟨by rw [HKS.out]; exact HK.out.alloc _⟩⟩
          case measure => simp [intOf]; omega
      · have hks : kp cs (n + 1) = kp cs n ++ [c] := by rw [kp_succ hc, ← HN.out, if_neg hd]
        have hgs : gn cs (n + 1) = gn cs n := by rw [gn_succ (by rw [← HN.out]; exact hlt) hc, ← HN.out, if_neg hd]
        have HKS := Lib.hid hks
        have HGS := Lib.hid hgs
        have hkl : (kp cs n).length ≤ n := kp_len cs n (by rw [← HN.out]; exact hn)
        by_cases hb : c.frm = c.tt
        · have hb1 : ((c.frm : Int) == (c.tt : Int)) = true := by simp [hb]
          have hb2 : ((c.tt : Int) == (c.ys.length : Int)) = false := by simp; omega
          have hb3 : decide ((n : Int) < (N : Int) - 1) = false := decide_eq_false (by omega)
          clear hc hks hgs hd hb
          go_wp2_with (first | (at_builtin; refine wpList_append_own_at _ rfl (.tmp 44) (.tmp 46) 65 rfl w.heap.size 73 i0 _ 3 40 Try.underlying65 hi hz0 hz1 hz2 rfl (by decide) _ (kp cs n).length (qcells (kp cs n)) rfl ((HK.out.alloc _).alloc _) ⟨wr.heap.size + 1, 0, none⟩ 1 1 c.cells rfl rfl (World.news_of_block (cs := c.cells.toArray) (t := 73) (fr := (0, 0)) (two_new wr _ _)) (by simp [Chk.cells, Value.oneCell']) (by simp only [maxLen]; omega) (by omega) (by simp; omega) ?_; intro v1 w1 ho1 hg1 _ hat1; have HO1 := Aside0.mk ho1; have HG1 := Aside0.mk hg1; clear ho1 hg1 hat1))
          go_round
          case rel => exact ⟨n + 1, by omega, by go_num, by rw [HGS.out], ⟨(below_alloc (below_alloc HW.out _) _).grown HG1.out (by simp; omega) (fun k e => own_low HK.out k e)⟩, ⟨by rw [HKS.out, qcells_app, List.length_append]; exact HO1.out⟩⟩
          case measure => simp [intOf]; omega
        · have hb1 : ((c.frm : Int) == (c.tt : Int)) = false := by simp; omega
          clear hc hks hgs hd hb
          go_wp2_with (first | (at_builtin; refine wpList_append_own_at _ rfl (.tmp 44) (.tmp 46) 65 rfl w.heap.size 73 i0 _ 3 40 Try.underlying65 hi hz0 hz1 hz2 rfl (by decide) _ (kp cs n).length (qcells (kp cs n)) rfl ((HK.out.alloc _).alloc _) ⟨wr.heap.size + 1, 0, none⟩ 1 1 c.cells rfl rfl (World.news_of_block (cs := c.cells.toArray) (t := 73) (fr := (0, 0)) (two_new wr _ _)) (by simp [Chk.cells, Value.oneCell']) (by simp only [maxLen]; omega) (by omega) (by simp; omega) ?_; intro v1 w1 ho1 hg1 _ hat1; have HO1 := Aside0.mk ho1; have HG1 := Aside0.mk hg1; clear ho1 hg1 hat1))
          go_round
          case rel => exact ⟨n + 1, by omega, by go_num, by rw [HGS.out], ⟨(below_alloc (below_alloc HW.out _) _).grown HG1.out (by simp; omega) (fun k e => own_low HK.out k e)⟩, ⟨by rw [HKS.out, qcells_app, List.length_append]; exact HO1.out⟩⟩
          case measure => simp [intOf]; omega
    · obtain rfl : n = N := by omega
      have hK2 : wr.ownsRow w.heap.size 73 3 u2 (kp cs cs.length).length (qcells (kp cs cs.length)) := by have := HK.out; rw [HN.out] at this; exact this
      obtain ⟨A2, cap2, rfl⟩ := own_shape (own_base0 hK2)
      obtain ⟨kq, ky, ku⟩ := kept_queue (w' := wr.setCell ⟨qa, 7, none⟩ (.slice A2 (kp cs cs.length).length cap2)) HQ.out HW.out hK2 rfl
      have hE := (HW.out.block _ hqlt).trans HQ.out.head
      have hf7 : wr.frozen? ⟨qa, 7, none⟩ = false := blk_frozen hE 7
      have hc7 : wr.cell? ⟨qa, 7, none⟩ = some (.slice A n cap) := (HW.out.cell (p := ⟨qa, 7, none⟩) hqlt).trans h7
      have kB : BookAt (wr.setCell ⟨qa, 7, none⟩ (.slice A2 (kp cs cs.length).length cap2)) p b q := HB.out.frame (fun j hj => ku.block j (HB.out.lt hj) (fun e => HQ.out.not_book HB.out (.inl rfl) (e ▸ hj)))
      have hgn1 := HGN.out n
      have hgne : gn cs n = gn cs cs.length := by rw [HN.out]
      obtain ⟨m1, m2, m3, m4, m5, m6, m7, m8⟩ := queue_cells kq.head
      have KQ := Aside0.mk kq
      have KY := Lib.hid ky
      have KU := Aside0.mk ku
      have KB := Aside0.mk kB
      have HGE := Lib.hid hgne
      clear hE hK2 kq ky ku kB hgne HK
      by_cases hg0 : gn cs n = 0
      · have hd : decide (0 < gn cs n) = false := decide_eq_false (by omega)
        have HG0 := Lib.hid hg0
        clear hg0
        go_wp2_with fail
        go_end0
        exact ⟨rfl, _, b, q, KQ.out, KY.out, KB.out, KU.out.mono (fun j hj => .inl hj), fun j hj => .inl hj, .inl ⟨by rw [← HGE.out]; exact HG0.out, rfl⟩⟩
      · have hd : decide (0 < gn cs n) = true := decide_eq_true (by omega)
        have hs : checkS o [(gn cs n : Int)] = 0 := by
          unfold checkS
          rw [if_pos ho, if_pos]
          intro x hx
          obtain rfl := List.mem_singleton.1 hx
          omega
        have hle : (gn cs n : Int) ≤ a.held := by have := HRM.out; have := gn_le cs n; omega
        generalize hW2 : wr.setCell ⟨qa, 7, none⟩ (.slice A2 (kp cs cs.length).length cap2) = W2 at *
        have HC := Aside0.mk (give_ok (w := W2.drew) (KB.out.frame (fun k hk => rfl)) HOK.out o (gn cs n) hs a HA.out hle)
        have HG0 := Lib.hid hg0
        have HST : Aside0 (∀ (b' : BookS) (w' : World), Book.Leaves W2.drew w' p q b' → w'.cell? ⟨qa, 0, none⟩ = some (.pointer (some ⟨p, 0, none⟩)) ∧ w'.cell? ⟨qa, 1, none⟩ = some (.int .i64 o)) := ⟨fun b' w' ⟨q', _, hu, _⟩ => by
          have hu' : Upd (q.Foot p) W2.drew w' := hu
          have h : w'.heap[qa]? = some _ := (hu'.block _ (blk_lt KQ.out.head) (KQ.out.not_book KB.out (.inl rfl))).trans KQ.out.head
          obtain ⟨a0, a1, _⟩ := queue_cells h
          exact ⟨a0, a1⟩⟩
        clear hs hle hg0
        go_wp2_with fail
        go_region_held3 (fun w' => w'.cell? ⟨qa, 0, none⟩ = some (.pointer (some ⟨p, 0, none⟩)) ∧ w'.cell? ⟨qa, 1, none⟩ = some (.int .i64 o)) (first | exact ⟨m1, m2⟩ | exact HST.out _ _ HL.out) ((go_at_call 47; refine HC.out.mono ?_; rintro e w1 ⟨rfl, i, x, i1, i2, i3, hl⟩; have HL := Aside0.mk hl; have HI := Aside0.mk (And.intro i1 (And.intro i2 i3)); clear hl i1 i2 i3))
        all_goals
          go_wp2_with fail
          go_end0
          obtain ⟨i1, i2, i3⟩ := HI.out
          obtain ⟨q', l1, l2, l3⟩ := leaves_then KB.out (below_drew (Below.refl _ _)) HL.out
          refine ⟨rfl, _, _, q', KQ.out.upd l2 (fun j hj => KQ.out.not_book KB.out hj), KY.out, l1, (KU.out.mono (fun j hj => .inl hj)).then l2 (fun j hj => .inl (.inr hj)), fun j hj => (l3 j hj).imp id (Nat.le_trans KU.out.size), .inr ⟨?_, i, x, i1, i2, i3, by rw [HGE.out]⟩⟩
          rw [← HGE.out]
          have := HG0.out
          omega
end Go.Proofs.Ytmellidlnggldaa.Ring
