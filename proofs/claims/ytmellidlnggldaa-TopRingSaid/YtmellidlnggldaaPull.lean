/- Queues: Pull. -/
import Derived.Test.YtmellidlnggldaaQDrop
namespace Go.Proofs.Ytmellidlnggldaa.Ring
set_option linter.unusedVariables false
open Go.RowKit Go.Proofs.YtmellidlnggldaaW.PrintWords Go.Proofs.YtmellidlnggldaaW.PrintLast Go.Proofs.YtmellidlnggldaaW.PrintMore Go.Proofs.Ytmellidlnggldaa.Book Go.Proofs.Ytmellidlnggldaa.Oct Go.Proofs.Ytmellidlnggldaa.Pure
set_option linter.unusedSimpArgs false

/-- x[lo:hi]. -/
theorem sub_mid (A : Option Addr) (n c lo hi : Nat) (h1 : lo ≤ hi) (h2 : hi ≤ c) : ∃ A' : Option Addr, (∀ W : World, (Instr.slice 37 (.slice A n c) (some (.int .i64 lo)) (some (.int .i64 hi)) none).run Try.prog W = .ok (.slice A' (hi - lo) (c - lo)) W) ∧ (lo < c → A' = A.map (·.add lo)) ∧ (¬ lo < c → A' = A) := by
  obtain ⟨i0, hi0, hz0, hz1, hz2⟩ := info_parts infoU8
  have hel : Try.prog.elem 37 = 5 := by simp [Program.elem, Try.underlying37]
  have hu : Try.prog.underlying 37 = some (.slice (Try.prog.elem 37)) := by rw [hel]; exact Try.underlying37
  refine ⟨if c = lo then A else A.map (·.add lo), fun W => ?_, fun h => if_neg (by omega), fun h => if_pos (by omega)⟩
  rw [run_slice_lh W 37 A n c hu .i64 .i64 lo hi (by omega) (by omega) (by omega), hel]
  simp [sizeOf, typeInfo, hi0, hz1, sliced, Result.andThen]

/-- What the loop keeps: k chunks have been read. -/
structure PullRel (w wr : World) (qv : Value) (n : Nat) (cs : List Chk) (k : Nat) (v : Value) (l : Nat) : Prop where
  own : wr.ownsRow 0 73 3 qv cs.length (qcells (adv n cs k))
  upd : Upd (fun j => some j = qv.ownBlock) w wr
  out : wr.ownsRow w.heap.size 5 1 v l (lits8 ((qout (cs.take k)).take n))
  len : l = min n (qout (cs.take k)).length

section
variable {w wr : World} {qa p : Nat} {o k s m size : Int} {qv : Value} {cs : List Chk} {n : Nat}
theorem QueueAt.row_ne (hQ : QueueAt w qa p o k s m size qv cs) {c : Chk} (hc : c ∈ cs) : some c.g ≠ qv.ownBlock := own_not hQ.own (hQ.rows c hc) (by decide)
theorem QueueAt.head_ne (hQ : QueueAt w qa p o k s m size qv cs) : some qa ≠ qv.ownBlock := own_not hQ.own hQ.head (by decide)
theorem PullRel.row (hQ : QueueAt w qa p o k s m size qv cs) {i : Nat} {v : Value} {l : Nat} (h : PullRel w wr qv n cs i v l) {c : Chk} (hc : c ∈ cs) : Row wr c.g c.ys := (hQ.rows c hc).upd h.upd (hQ.row_ne hc)
theorem PullRel.queue (hQ : QueueAt w qa p o k s m size qv cs) {v : Value} {l : Nat} (h : PullRel w wr qv n cs cs.length v l) : QueueAt wr qa p o k s m size qv (adv n cs cs.length) where
  head := (h.upd.block _ (hQ.lt (.inl rfl)) hQ.head_ne).trans hQ.head
  own := by rw [adv_length]; exact h.own
  rows := fun c hc => by
    obtain ⟨c', h1, h2, h3, _⟩ := adv_mem (Nat.le_refl _) hc
    rw [h2, h3]
    exact h.row hQ h1
  fits := fun c hc => by
    obtain ⟨c', h1, h2, h3, h4, h5, h6⟩ := adv_mem (Nat.le_refl _) hc
    have := hQ.fits c' h1
    rw [h3, h4]
    exact ⟨by omega, this.2⟩
  same := fun c hc => by
    obtain ⟨c', h1, h2, h3, _⟩ := adv_mem (Nat.le_refl _) hc
    rw [h3]
    exact hQ.same c' h1
  apart := by rw [adv_map n cs cs.length (Nat.le_refl _)]; exact hQ.apart
  few := by rw [adv_length]; exact hQ.few
  len := by
    rw [adv_all n cs (fun c hc => (hQ.fits c hc).1), List.length_drop]
    have := hQ.len
    omega
/-- One chunk more. -/
theorem PullRel.next (hQ : QueueAt w qa p o k s m size qv cs) {i : Nat} {v v1 : Value} {l g cap mm : Nat} {w1 : World} {c : Chk} (h : PullRel w wr qv n cs i v l) (hqv : qv = .slice (some ⟨g, 0, none⟩) cs.length cap) (hc : cs[i]? = some c) (hm : mm = min (n - l) (c.tt - c.frm))
    (ho : w1.ownsRow w.heap.size 5 1 v1 (l + mm) (lits8 ((qout (cs.take i)).take n) ++ lits8 ((c.ys.drop c.frm).take mm))) (hg : wr.grownBy w1 v.ownBlock) :
    PullRel w (w1.setCell ⟨g, i * 3 + 1, none⟩ (.int .i64 ((c.frm + mm : Nat) : Int))) qv n cs (i + 1) v1 (l + mm) := by
  have hil := (List.getElem?_eq_some_iff.1 hc).1
  have hgw : g < w.heap.size := own_lt' hQ.own (by rw [hqv]; rfl)
  have hy : ∀ j, some j = v.ownBlock → w.heap.size ≤ j := fun j hj => own_low h.out j hj.symm
  have hy1 : ∀ j, some j = v1.ownBlock → w.heap.size ≤ j := fun j hj => own_low ho j hj.symm
  have hl := h.len
  have hmm : n - (qout (cs.take i)).length = n - l := by omega
  have hcl : c.out.length = c.tt - c.frm := Chk.out_length (hQ.fits c (List.mem_of_getElem? hc)).2.1
  have hfrm : (advd n cs i c).frm = c.frm + mm := by simp only [advd]; rw [hmm, hm]
  have hown1 : w1.ownsRow 0 73 3 qv cs.length (qcells (adv n cs i)) := own_frame h.own (fun j hj => hg.block j (own_lt' h.own hj) (fun e => by
    have h1 := hy j e
    have : j = g := by rw [hqv] at hj; simpa [Value.ownBlock] using hj
    omega))
  refine ⟨?_, ?_, ?_, ?_⟩
  · rw [qcells_adv hil hc, hfrm]
    rw [hqv] at hown1 ⊢
    exact (hown1.stored (i * 3 + 1) _).1
  · refine Upd.setCell (S := fun j => some j = qv.ownBlock) ?_ ⟨g, i * 3 + 1, none⟩ (.inl (by rw [hqv]; rfl)) _
    exact ⟨hg.os.trans h.upd.os, hg.tape.trans h.upd.tape, hg.output.trans h.upd.output, Nat.le_trans h.upd.size hg.size, fun j hj hn => (hg.block j (Nat.lt_of_lt_of_le hj h.upd.size) (fun e => by have := hy j e; omega)).trans (h.upd.block j hj hn)⟩
  · have e : (qout (cs.take (i + 1))).take n = (qout (cs.take i)).take n ++ (c.ys.drop c.frm).take mm := by rw [out_step n cs i c hc, hmm, hm]
    rw [e, lits8_append]
    exact own_setCell ho (fun e => by have := hy1 _ e; simp only at this; omega) _
  · rw [qout_take cs i c hc, List.length_append, hcl, hm]
    omega
end

theorem src_cells {wr : World} {g : Nat} {ys : List Int} (h : Row wr g ys) (frm mm : Nat) (hl : frm + mm ≤ ys.length) {A' : Option Addr} (h1 : frm < ys.length → A' = (some ⟨g, 0, none⟩ : Option Addr).map (·.add frm)) (h2 : ¬ frm < ys.length → A' = some ⟨g, 0, none⟩) :
    ∃ ad, A' = some ad ∧ ∀ j u, (lits8 ((ys.drop frm).take mm))[j]? = some u → wr.cell? (ad.add j) = some u := by
  by_cases hf : frm < ys.length
  · refine ⟨⟨g, frm, none⟩, by rw [h1 hf]; simp [add_zero'], fun j u hj => ?_⟩
    have hjl := (List.getElem?_eq_some_iff.1 hj).1
    rw [lits8_length, List.length_take, List.length_drop] at hjl
    rw [Oct.add_at, h.cell (frm + j) (by omega), ← hj, lits8_get _ j (by rw [List.length_take, List.length_drop]; omega)]
    congr 2
    simp [List.getD_eq_getElem?_getD, List.getElem?_take, List.getElem?_drop]
    rw [if_pos (by omega)]
  · refine ⟨_, h2 hf, fun j u hj => ?_⟩
    have hjl := (List.getElem?_eq_some_iff.1 hj).1
    rw [lits8_length, List.length_take, List.length_drop] at hjl
    omega

/-- What Pull leaves. -/
structure Pulled (w w' : World) (qa p : Nat) (o k s m size : Int) (qv : Value) (cs : List Chk) (b : BookS) (q : Parts) (a : Acc) (n : Nat) (qv' : Value) (ks : List Chk) (b' : BookS) (q' : Parts) : Prop where
  queue : QueueAt w' qa p o k s m size qv' ks
  eq : ks = kp (adv n cs cs.length) cs.length
  shows : qout ks = (qout cs).drop n
  young : ∀ j, QFoot qa qv' ks j → QFoot qa qv cs j ∨ w.heap.size ≤ j
  book : BookAt w' p b' q'
  upd : Upd (fun j => QFoot qa qv cs j ∨ q.Foot p j) w w'
  foot : ∀ j, q'.Foot p j → q.Foot p j ∨ w.heap.size ≤ j
  gone : (qroom ks = qroom cs ∧ b' = b) ∨ (qroom ks < qroom cs ∧ ∃ i x, b.accs[i]? = some x ∧ x.1 = o ∧ x.2 = a ∧ b' = b.put i (-((qroom cs - qroom ks : Nat) : Int)) 4 o ((qroom cs - qroom ks : Nat) : Int))

theorem pulled_of {w wr w' : World} {qa p : Nat} {o k s m size : Int} {qv : Value} {cs : List Chk} {n : Nat} {v : Value} {l : Nat} {b : BookS} {q : Parts} {a : Acc} {qv' : Value} {b' : BookS} {q' : Parts} (hQ : QueueAt w qa p o k s m size qv cs) (hB : BookAt w p b q) (hr : PullRel w wr qv n cs cs.length v l)
    (hd : Dropped wr w' qa p o k s m size (adv n cs cs.length) b q a qv' b' q') : Pulled w w' qa p o k s m size qv cs b q a n qv' (kp (adv n cs cs.length) cs.length) b' q' := by
  have hle := hr.upd.size
  have hal := adv_length n cs cs.length
  have hkr := gn_room (adv n cs cs.length)
  have hQ' := hd.queue
  rw [hal] at hkr hQ'
  rw [adv_room n cs cs.length (Nat.le_refl _)] at hkr
  have hgn := hd.gone
  rw [hal] at hgn
  refine ⟨hQ', rfl, ?_, ?_, hd.book, ?_, fun j hj => (hd.foot j hj).imp id (Nat.le_trans hle), ?_⟩
  · have h1 := kp_out (adv n cs cs.length) cs.length (by omega)
    have h2 : (adv n cs cs.length).take cs.length = adv n cs cs.length := List.take_of_length_le (by omega)
    rw [h1, h2]
    exact adv_all n cs (fun c hc => (hQ.fits c hc).1)
  · rintro j (rfl | hj | hj)
    · exact .inl (.inl rfl)
    · exact .inr (Nat.le_trans hle (hd.young j hj))
    · obtain ⟨c, hc, rfl⟩ := List.mem_map.1 hj
      have hc' := kp_mem (by omega) hc
      obtain ⟨c1, h1, h2, _⟩ := adv_mem (Nat.le_refl _) hc'
      rw [h2]
      exact .inl (.inr (.inr (List.mem_map_of_mem h1)))
  · refine (hr.upd.mono (fun j hj => .inl (.inr (.inl hj)))).then hd.upd (fun j hj => .inl ?_)
    rcases hj with rfl | hj
    · exact .inl (.inl rfl)
    · exact .inr hj
  · rcases hgn with ⟨h1, h2⟩ | ⟨h1, i, x, i1, i2, i3, h2⟩
    · exact .inl ⟨by omega, h2⟩
    · refine .inr ⟨by omega, i, x, i1, i2, i3, ?_⟩
      have e : qroom cs - qroom (kp (adv n cs cs.length) cs.length) = gn (adv n cs cs.length) cs.length := by omega
      rw [e]; exact h2

set_option maxHeartbeats 2000000 in
set_option maxRecDepth 100000 in
theorem pull {w : World} {qa p : Nat} {o k s m size : Int} {qv : Value} {cs : List Chk} {b : BookS} {q : Parts} (hQ : QueueAt w qa p o k s m size qv cs) (hB : BookAt w p b q) (hok : b.OK) (ho : 1 ≤ o ∧ o ≤ 40) (a : Acc) (ha : b.acc o = some a) (hr : (qroom cs : Int) ≤ a.held) (n : Nat) (hn : n ≤ (qout cs).length) :
    Calls Try.prog 12 #[.pointer (some ⟨qa, 0, none⟩), .int .i64 n] w fun e w' => ∃ B cap, e = .returned (.tuple #[.slice B n cap, .int .i64 0]) ∧ n ≤ cap ∧ ReadsInt w' .u8 B n ((qout cs).take n) ∧ ∃ qv' ks b' q', Pulled w w' qa p o k s m size qv cs b q a n qv' ks b' q' := by
  have HB := Aside0.mk hB
  have HOK := Aside0.mk hok
  have HA := Lib.hid ha
  have HRM := Lib.hid hr
  obtain ⟨h0, h1, h2, h3, h4, h5, h6, h7⟩ := queue_cells hQ.head
  obtain ⟨A, cap, rfl⟩ := own_shape hQ.own
  have hqlt := hQ.lt (.inl rfl)
  have hfew := hQ.few
  have hlen := hQ.len
  obtain ⟨N, hN⟩ : ∃ N, N = cs.length := ⟨_, rfl⟩
  have HN := Lib.hid hN
  obtain ⟨L, hL⟩ : ∃ L, L = (qout cs).length := ⟨_, rfl⟩
  have HL := Lib.hid hL
  have HQL := Aside0.mk (qlen hQ)
  rw [← hL] at hn hlen HQL
  rw [← hN] at hQ h7 hfew ⊢
  have HQ := Aside0.mk hQ
  have hw : decide ((0 : Int) ≤ (n : Int) ∧ (n : Int) ≤ (L : Int)) = true := decide_eq_true (by omega)
  obtain ⟨i0, hi, hz0, hz1, hz2⟩ := info_parts infoU8
  clear hQ hB hok ha hr h0 h1 h2 h3 h4 h5 hN hL
  go_enter Try.func12, Try.ntmps12
  go_wp2_with fail
  refine HQL.out.mono ?_
  rintro e w1 ⟨rfl, hb1⟩
  have HB1 := Aside0.mk hb1
  have h7b := (hb1.cell (p := ⟨qa, 7, none⟩) hqlt).trans h7
  clear hb1
  go_wp2_with fail
  refine (withinQ _ _ _ _).mono ?_
  rintro e w2 ⟨rfl, m2, rfl⟩
  rw [hw]
  have h7c : (w1.drewN m2).cell? ⟨qa, 7, none⟩ = some (.slice A N cap) := h7b
  have HB2 := Aside0.mk (pw_below_drewN HB1.out m2)
  clear h7b h7 h6
  generalize w1.drewN m2 = w2 at *
  have HR0 := Aside0.mk (show PullRel w w2 (.slice A N cap) n cs 0 (.slice none 0 0) 0 from ⟨own_frame HQ.out.own (fun j hj => HB2.out.block j (own_lt' HQ.out.own hj)), Upd.of_below HB2.out, by simp [qout, lits8]; exact own_nil _ _ _ _, by simp [qout]⟩)
  go_wp2_with fail
  go_loopw [6, 7, 8, 9, 26] (fun s6 _ _ _ i wr => ∃ (j l : Nat), j ≤ N ∧ i = .int .i64 j ∧ Aside0 (PullRel w wr (.slice A N cap) n cs j s6 l)) (fun _ _ _ _ i _ => N - (intOf i).toNat)
  case atStart => exact ⟨0, 0, Nat.zero_le _, rfl, HR0⟩
  case round =>
    obtain ⟨j, l, hj, rfl, HR⟩ := hrel
    by_cases hlt : j < N
    · obtain ⟨c, hc⟩ : ∃ c, cs[j]? = some c := ⟨_, List.getElem?_eq_getElem (by rw [← HN.out]; exact hlt)⟩
      have hcm := List.mem_of_getElem? hc
      obtain ⟨f1, f2, f3⟩ := HQ.out.fits c hcm
      have hown : wr.ownsRow 0 73 3 (.slice A N cap) N (qcells (adv n cs j)) := by have := HR.out.own; rw [← HN.out] at this; exact this
      obtain ⟨g, rfl, c0, c1, c2⟩ := chunkAt hown j c (by rw [adv_get n cs j (by rw [← HN.out]; omega) j, if_neg (by omega)]; exact hc)
      have hgw : g < w.heap.size := own_lt' HQ.out.own rfl
      obtain ⟨A6, cap6, rfl, hc6, hm6, _, hy6, _⟩ := own_reads8 HR.out.out
      have hln : l ≤ n := by have := HR.out.len; omega
      have hq7 : wr.cell? ⟨qa, 7, none⟩ = some (.slice (some ⟨g, 0, none⟩) N cap) := by
        obtain ⟨_, _, _, _, _, _, _, a7⟩ := queue_cells ((HR.out.upd.block _ hqlt HQ.out.head_ne).trans HQ.out.head)
        exact a7
      obtain ⟨mm, hmm⟩ : ∃ mm, mm = min (n - l) (c.tt - c.frm) := ⟨_, rfl⟩
      have hmin : (if (c.tt : Int) - (c.frm : Int) < (n : Int) - (l : Int) then (c.tt : Int) - (c.frm : Int) else (n : Int) - (l : Int)) = (mm : Int) := by split <;> omega
      have hmin2 : (if (n : Int) - (l : Int) < (c.tt : Int) - (c.frm : Int) then (n : Int) - (l : Int) else (c.tt : Int) - (c.frm : Int)) = (mm : Int) := by split <;> omega
      obtain ⟨A', hsl, hA1, hA2⟩ := sub_mid (some ⟨c.g, 0, none⟩) c.ys.length c.ys.length c.frm (c.frm + mm) (by omega) (by omega)
      have e9 : c.frm + mm - c.frm = mm := by omega
      rw [e9] at hsl
      simp only [Int.natCast_add] at hsl
      obtain ⟨ad, rfl, had⟩ := src_cells (HR.out.row HQ.out hcm) c.frm mm (by omega) hA1 hA2
      have HAD := Lib.hid had
      have hM := Lib.hid hmm
      have HC := Lib.hid hc
      have hmb : mm ≤ 100000 := by omega
      have hfg : wr.frozen? ⟨g, j * 3 + 1, none⟩ = false := hown.frozenAt _
      have HF := Lib.hid hfg
      have HC1 := Lib.hid c1
      have hlen6 : ((c.ys.drop c.frm).take mm).length = mm := by simp; omega
      have HL6 := Lib.hid hlen6
      have hw5 : IntKind.i64.wrap ((c.frm : Int) + (mm : Int)) = (c.frm : Int) + (mm : Int) := IntWalk.i64_in _ ⟨by omega, by omega⟩
      clear hcm hown hy6 hA1 hA2 had hmm hc hfg e9 hlen6
      go_wp2_with fail
      go_cut [9] (fun s9 wx => s9 = .int .i64 mm ∧ ∃ m, wx = wr.drewN m)
      case first =>
        go_quiet ((fail))
        go_wp2_with fail
        go_meet
        exact ⟨rfl, _, rfl⟩
      case rest =>
        obtain ⟨rfl, m9, rfl⟩ := hcut
        go_wp2_with fail
        go_cut [6] (fun s6 wx => ∃ A7 c7, s6 = .slice A7 (l + mm) c7 ∧ Aside0 (wx.ownsRow w.heap.size 5 1 s6 (l + mm) (lits8 ((qout (cs.take j)).take n) ++ lits8 ((c.ys.drop c.frm).take mm))) ∧ Aside0 (wr.grownBy wx (Value.slice A6 l cap6).ownBlock))
        case first =>
          have HO2 : Aside0 ((wr.drewN m9).drew.ownsRow w.heap.size 5 1 (.slice A6 l cap6) l (lits8 ((qout (cs.take j)).take n))) := ⟨HR.out.out⟩
          have HS2 : Aside0 (∀ j u, (lits8 ((c.ys.drop c.frm).take mm))[j]? = some u → (wr.drewN m9).drew.cell? (ad.add j) = some u) := ⟨HAD.out⟩
          have HG2 : Aside0 (∀ w', (wr.drewN m9).drew.grownBy w' (Value.slice A6 l cap6).ownBlock → wr.grownBy w' (Value.slice A6 l cap6).ownBlock) := ⟨fun w' h => ⟨h.os, h.tape, h.output, h.size, h.block⟩⟩
          have hbase : w.heap.size ≤ (wr.drewN m9).drew.heap.size := HR.out.upd.size
          have d0 : (wr.drewN m9).cell? ⟨g, j * 3, none⟩ = some (.slice (some ⟨c.g, 0, none⟩) c.ys.length c.ys.length) := c0
          have d1 : (wr.drewN m9).cell? ⟨g, j * 3 + 1, none⟩ = some (.int .i64 c.frm) := c1
          clear c0 c1 c2 hq7
          generalize wr.drewN m9 = wq at *
          go_still_tail 16, (by kernel_rfl)
          change wpList _ _ _ _ _ wq.drew
          generalize wq.drew = w5 at *
          go_wp2_with (first | (at_builtin; refine wpList_append_own_at _ rfl (.tmp 49) (.tmp 64) 37 rfl w.heap.size 5 i0 (.int .u8 0) 1 1 Try.underlying37 hi hz0 hz1 hz2 rfl (by decide) (.slice A6 l cap6) l _ rfl HO2.out ad mm _ (lits8 ((c.ys.drop c.frm).take mm)) rfl (by rw [lits8_length, HL6.out, Nat.mul_one]) HS2.out (lits8_one _) (by simp only [maxLen]; omega) (by omega) hbase ?_; intro v1 w6 ho1 hg1 _ _; have HO1 := Aside0.mk ho1; have HG1 := Aside0.mk (HG2.out _ hg1); obtain ⟨A7, c7, rfl⟩ := own_shape (own_base0 ho1); clear ho1 hg1))
          go_meet
          exact ⟨A7, c7, rfl, HO1, HG1⟩
        case rest =>
          obtain ⟨A7, c7, rfl, HO1, HG1⟩ := hcut
          have hgne : some g ≠ (Value.slice A6 l cap6).ownBlock := fun e => by
            have := own_low HR.out.out g e.symm
            omega
          have hblk := HG1.out.block g (by have := HR.out.upd.size; omega) hgne
          have c1' : wc.cell? ⟨g, j * 3 + 1, none⟩ = some (.int .i64 c.frm) := (World.cell?_of_block (a := ⟨g, j * 3 + 1, none⟩) hblk).trans HC1.out
          have f1' : wc.frozen? ⟨g, j * 3 + 1, none⟩ = false := (World.frozen?_of_block (a := ⟨g, j * 3 + 1, none⟩) hblk).trans HF.out
          have HNX := Aside0.mk (HR.out.next HQ.out (by rw [HN.out]) HC.out hM.out HO1.out HG1.out)
          clear hgne hblk c0 c1 c2
          go_wp2_with fail
          go_round
          case rel => exact ⟨j + 1, l + mm, by omega, by go_num, ⟨by have h9 := HNX.out; simpa using h9⟩⟩
          case measure => simp [intOf]; omega
    · obtain rfl : j = N := by omega
      obtain ⟨A6, cap6, rfl, hc6, hm6, hr6, hy6, _⟩ := own_reads8 HR.out.out
      have hRe : PullRel w wr (.slice A j cap) n cs cs.length (.slice A6 l cap6) l := by have := HR.out; rw [HN.out] at this ⊢; exact this
      have hln : l = n := by
        have := hRe.len
        rw [List.take_length] at this
        have := HL.out
        omega
      subst hln
      have hB2 : BookAt wr p b q := HB.out.frame (fun k hk => hRe.upd.block k (HB.out.lt hk) (fun e => HQ.out.not_book HB.out (.inr (.inl e)) hk))
      have HD := Aside0.mk (qdrop (hRe.queue HQ.out) hB2 HOK.out ho a HA.out (by rw [adv_room _ _ _ (Nat.le_refl _)]; exact HRM.out))
      have HRE := Aside0.mk hRe
      have hr7 : ReadsInt wr .u8 A6 l ((qout cs).take l) := by
        rw [HN.out, List.take_length] at hr6
        exact hr6
      have HR7 := Aside0.mk hr7
      have HY6 := Lib.hid hy6
      clear hRe hB2 hr6 hr7 hy6
      go_wp2_with fail
      refine HD.out.mono ?_
      rintro e w7 ⟨rfl, qv', b', q', hd⟩
      have HDD := Aside0.mk hd
      clear hd
      go_wp2_with fail
      go_ret2
      refine ⟨A6, cap6, rfl, hc6, reads_upd HR7.out HDD.out.upd (fun ad e _ => ?_), qv', _, b', q', pulled_of HQ.out HB.out HRE.out HDD.out⟩
      obtain ⟨g6, rfl, hy, _⟩ := HY6.out ad e
      rintro (h | h)
      · simp only at h; omega
      · have := HB.out.lt h
        simp only at this
        omega
end Go.Proofs.Ytmellidlnggldaa.Ring
