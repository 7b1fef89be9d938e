/- TopMoves: the law. -/
import Derived.Test.YthhnmanhehbbhaaMoves
import Derived.Deep.DeepCutAuto
import Derived.Deep.RegionHeld3
import Derived.Deep.DrawnRows
import Derived.IntWalk
import Derived.BigQuiet
namespace Go.Proofs.Ythhnmanhehbbhaa.Ring
set_option linter.unusedVariables false
open Go.RowKit Go.Proofs.YthhnmanhehbbhaaW.PrintWords Go.Proofs.YthhnmanhehbbhaaW.PrintLast Go.Proofs.YthhnmanhehbbhaaW.PrintMore Go.Proofs.Ythhnmanhehbbhaa.Book Go.Proofs.Ythhnmanhehbbhaa.Oct Go.Proofs.Ythhnmanhehbbhaa.Pure
set_option linter.unusedSimpArgs false

/-- A list of lists of octets, as it came in: address, capacity, octets. -/
def Lists (w : World) (A : Option Addr) (n : Nat) (T : Nat → Option Addr × Nat × List Int) : Prop := 0 < n → ∃ b o, A = some ⟨b, o, none⟩ ∧ b < w.heap.size ∧
  ∀ i, i < n → w.cell? ⟨b, o + i, none⟩ = some (.slice (T i).1 (T i).2.2.length (T i).2.1) ∧ ReadsInt w .u8 (T i).1 (T i).2.2.length (T i).2.2 ∧ (T i).2.2.length ≤ 140737488351232 ∧ ((T i).1 = none → (T i).2.2.length = 0 ∧ (T i).2.1 = 0)

theorem first_rel {w wa wb : World} {r p : Nat} {k s m f0 : Int} {fs : List Int} {b b' : BookS} {q q' : Parts} {mv : Bool} {MA' : Option Addr} {c' start' : Nat} {ys' : List Int} (hb : Below w.heap.size w wa) (hr : w.heap.size ≤ r) (hq : ∀ j, q.Foot p j → w.heap.size ≤ j)
    (hW : Written wa wb r p 1 k s m none 0 0 [] [] (f0 :: fs) b q mv 0 MA' c' start' ys' b' q') : ∃ lb, MA' = some ⟨lb, 0, none⟩ ∧ start' = 0 ∧ MovesRel w wb r p k s m f0 lb c' false MA' c' ys' (f0 :: fs) b' q' ys' := by
  have hR := hW.ring
  simp only [if_true, List.nil_append] at hR
  have hfit := hR.fits
  have hsz := hb.size
  have hmv : mv = true := by
    cases mv with
    | true => rfl
    | false => have := (hW.same rfl).2.1; subst this; simp at hfit
  subst hmv
  obtain ⟨rfl, _, ⟨lb, rfl, hy⟩, _⟩ := hW.moved rfl
  refine ⟨lb, rfl, rfl, hR, hW.book, hW.ok, rfl, hR.mem_lt rfl, ?_, fun _ => ⟨rfl, rfl⟩, (fun h => by cases h), hb.trans (hW.upd.below hsz (fun j hj => ?_)), hr, by omega, (fun mb e => by injection e with e; injection e with e; omega), fun j hj => (hW.foot j hj).elim (hq j) (fun h => by omega)⟩
  · rw [hR.full]; simp at hfit; omega
  · rcases hj with h | h | h
    · rw [h]; exact hr
    · cases h
    · exact hq j h

theorem below_boxed {w W : World} {o : Obj} (h : Below (w.alloc o).heap.size (w.alloc o) W) : Below w.heap.size w W := below_then (below_alloc (Below.refl _ _) _) (by simp) h

set_option maxHeartbeats 4000000 in
set_option maxRecDepth 100000 in
theorem moves_none (k s m : Int) (FC : Nat) (FA MO : Option Addr) (ml mc : Nat) (w : World) :
    Calls Try.prog 3 #[.agg #[.int .i64 k, .int .i64 s, .int .i64 m], .slice FA 0 FC, .slice MO ml mc] w fun e w' => e = .returned (.bool true) ∧ Below w.heap.size w w' := by
  have HS : Hid (checkS 1 [10000000] = 0) := Lib.hid (by decide)
  have hsz0 : (w.alloc (.cells #[.int .i64 k, .int .i64 s, .int .i64 m] 23)).heap.size = w.heap.size + 1 := alloc_size _ _
  have HZ := Lib.hid hsz0
  clear hsz0
  go_enter Try.func3, Try.ntmps3
  go_wp2_with fail
  refine (awakeLedger _).mono ?_
  rintro e w' ⟨rfl, rfl⟩
  go_wp2_with fail
  refine (newBook 10000000 _ (by decide)).mono ?_
  rintro e w1 ⟨rfl, hB, hb⟩
  have Hb := Aside0.mk hb
  rw [HZ.out] at hB ⊢
  have HB := Aside0.mk hB
  clear hB hb
  go_wp2_with fail
  refine (open_ok HB.out 1 10000000 HS.out rfl (by decide)).mono ?_
  rintro e w2 ⟨rfl, q, hB2, hk, hf⟩
  have HO := Aside0.mk (opened HZ.out Hb.out hk hf)
  have HB2 := Aside0.mk hB2
  obtain ⟨hx0, hx1, hx2⟩ := box_cells (box_later HO.out.1)
  clear hB2 hk hf
  go_wp2_with fail
  refine (newRing HB2.out 1 k s m).mono ?_
  rintro e w3 ⟨hn, hb3⟩
  have HB3 := Aside0.mk (below_then HO.out.1 HO.out.1.size hb3)
  clear hb3 hx0 hx1 hx2
  rcases hn with ⟨err, he, rfl⟩ | ⟨r, rfl, hr, hR⟩
  · have hne : (err != 0) = true := by simp [he]
    go_wp2_with fail
    go_ret
    exact ⟨rfl, below_boxed HB3.out⟩
  · clear hR
    go_wp2_with fail
    go_ret
    exact ⟨rfl, below_boxed HB3.out⟩

set_option maxHeartbeats 4000000 in
set_option maxRecDepth 100000 in
theorem moves_some (k s m f0 : Int) (fs : List Int) (fb fo fc : Nat) (MO : Option Addr) (ml mc : Nat) (T : Nat → Option Addr × Nat × List Int) (w : World) (hf : ReadsInt w .u8 (some ⟨fb, fo, none⟩) (f0 :: fs).length (f0 :: fs)) (hfl : (f0 :: fs).length ≤ 140737488351232) (hfc : (f0 :: fs).length ≤ fc) (hmc : ml ≤ mc) (hml : ml ≤ 9223372036854775807) (hT : Lists w MO ml T) :
    Calls Try.prog 3 #[.agg #[.int .i64 k, .int .i64 s, .int .i64 m], .slice (some ⟨fb, fo, none⟩) (f0 :: fs).length fc, .slice MO ml mc] w fun e w' => e = .returned (.bool true) ∧ Below w.heap.size w w' := by
  have HS : Hid (checkS 1 [10000000] = 0) := Lib.hid (by decide)
  have hsz0 : (w.alloc (.cells #[.int .i64 k, .int .i64 s, .int .i64 m] 23)).heap.size = w.heap.size + 1 := alloc_size _ _
  have HZ := Lib.hid hsz0
  have HF := Aside0.mk hf
  have HT := Aside0.mk hT
  have hn0 : (fs.length + 1 == 0) = false := by simp
  have hn1 : (((fs.length : Int) + 1) == 0) = false := by simp; omega
  have hfl2 : fs.length + 1 ≤ fc := hfc
  have HFL := Lib.hid hfl
  clear hsz0 hf hT hfl hfc
  go_enter Try.func3, Try.ntmps3
  go_wp2_with fail
  refine (awakeLedger _).mono ?_
  rintro e w' ⟨rfl, rfl⟩
  go_wp2_with fail
  refine (newBook 10000000 _ (by decide)).mono ?_
  rintro e w1 ⟨rfl, hB, hb⟩
  have Hb := Aside0.mk hb
  rw [HZ.out] at hB ⊢
  have HB := Aside0.mk hB
  clear hB hb
  go_wp2_with fail
  refine (open_ok HB.out 1 10000000 HS.out rfl (by decide)).mono ?_
  rintro e w2 ⟨rfl, q, hB2, hk, hf⟩
  have HO := Aside0.mk (opened HZ.out Hb.out hk hf)
  have HB2 := Aside0.mk (show BookAt w2 (w.heap.size + 1 + 1) bk0 q from hB2)
  obtain ⟨hx0, hx1, hx2⟩ := box_cells (box_later HO.out.1)
  clear hB2 hk hf
  go_wp2_with fail
  refine (newRing HB2.out 1 k s m).mono ?_
  rintro e w3 ⟨hn, hb3⟩
  have HB3 := Aside0.mk (below_then HO.out.1 HO.out.1.size hb3)
  have HBk3 := Aside0.mk (HB2.out.frame (fun j hj => hb3.block j (HB2.out.lt hj)))
  clear hb3 hx0 hx1 hx2
  rcases hn with ⟨err, he, rfl⟩ | ⟨r, rfl, hr, hR⟩
  · have hne : (err != 0) = true := by simp [he]
    go_wp2_with fail
    go_ret
    exact ⟨rfl, below_boxed HB3.out⟩
  · have HR := Aside0.mk hR
    have hry : w.heap.size ≤ r := by have := HO.out.1.size; have := HZ.out; omega
    clear hR hr
    go_wp2_with fail
    have HW3 := Aside0.mk (below_boxed HB3.out)
    refine (write HR.out HBk3.out bk0_OK (some ⟨fb, fo, none⟩) fc (f0 :: fs) (HF.out.below HW3.out) (by have := HFL.out; omega) (fun h => by cases h)).mono ?_
    rintro e w4 ⟨mv, err, MA', c', start', ys', b', q', rfl, hW⟩
    by_cases he : err = 0
    · subst he
      obtain ⟨lb, rfl, rfl, hrel⟩ := first_rel HW3.out hry (fun j hj => by have := HO.out.2 j hj; have := HZ.out; omega) hW
      have HE := Aside0.mk hrel
      have hfit := hrel.ring.fits
      clear hrel hW
      go_wp2_with fail
      refine (parts HE.out.ring).mono ?_
      rintro e w5 ⟨A1, rfl, hA1, m5, rfl⟩
      have hmin : min (0 + (f0 :: fs).length) c' - 0 = fs.length + 1 := by simp at hfit ⊢; omega
      rw [hmin]
      obtain rfl : A1 = some ⟨lb, 0, none⟩ := by
        rw [hA1 (by omega)]
        simp [add_zero']
      clear hA1 hmin
      go_wp2_with fail
      refine (roomOf r _ 1 k s m false _ c' _ _ _ (by exact HE.out.ring.head)).mono ?_
      rintro e w6 ⟨rfl, rfl⟩
      go_wp2_with fail
      have HREL := Aside0.mk (HE.out.later (pw_below_drewN (Below.refl _ _) m5))
      clear HE HR HBk3 HB3 HB2 HB Hb HS hfit
      go_loopw [15, 16, 17, 18, 19, 20, 21, 22, 74] (fun s15 s16 s17 s18 s19 s20 s21 s22 i (wr : World) => ∃ (n : Nat) (moved : Bool) (MA : Option Addr) (c : Nat) (ys xs : List Int) (b : BookS) (q : Parts) (ls : List Int), n ≤ ml ∧ i = .int .i64 n ∧ s15 = .bool moved ∧ Aside0 (MovesRel w wr r (w.heap.size + 1 + 1) k s m f0 lb c' moved MA c ys xs b q ls)) (fun _ _ _ _ _ _ _ _ i _ => ml - (intOf i).toNat)
      case atStart => exact ⟨0, false, _, c', ys', f0 :: fs, b', q', ys', Nat.zero_le _, rfl, rfl, HREL⟩
      case round =>
        obtain ⟨n, moved, MA, c, ys, xs, b, q, ls, hn, rfl, rfl, HE⟩ := hrel
        clear HREL
        by_cases hlt : n < ml
        · obtain ⟨bm, om, rfl, hbm, hcells⟩ := HT.out (by omega)
          obtain ⟨hc0, hc1, hc2, hc3⟩ := hcells n hlt
          generalize T n = tr at hc0 hc1 hc2 hc3
          obtain ⟨OA, oc, os⟩ := tr
          simp only at hc0 hc1 hc2 hc3
          have hcell : wr.cell? ⟨bm, om + n, none⟩ = some (.slice OA os.length oc) := by rw [← hc0]; exact Below.cell HE.out.below (p := ⟨bm, om + n, none⟩) hbm
          have HOS := Aside0.mk (hc1.below HE.out.below)
          have HOL := Lib.hid hc2
          have HON := Lib.hid hc3
          have hnI : (0 : Int) ≤ (n : Int) := by omega
          have hnE : (n : Int) < (ml : Int) := by omega
          clear hcells hc0 hc1 hc2 hc3
          go_wp2_with fail
          refine (roomOf r _ 1 k s m false _ c _ _ _ (by exact HE.out.ring.head)).mono ?_
          rintro e w7 ⟨rfl, rfl⟩
          go_wp2_with fail
          refine (write HE.out.ring HE.out.book HE.out.ok OA oc os HOS.out (by have := HOL.out; omega) HON.out).mono ?_
          rintro e w8 ⟨mv2, err, MA2, c2, st2, ys2, b2, q2, rfl, hW⟩
          obtain ⟨rfl, hsm, hmv, ls2, hrel2⟩ := HE.out.wrote hW
          have hcc : ((c2 : Int) != (c : Int)) = mv2 := by
            cases mv2 with
            | false => have := hsm rfl; simp [this]
            | true => have := hmv rfl; simp; omega
          have hcc2 : (c2 != c) = mv2 := by
            cases mv2 with
            | false => have := hsm rfl; simp [this]
            | true => have := hmv rfl; simp; omega
          have hmm : (mv2 != mv2) = false := by simp
          have hbad := hW.bad
          clear hW hmv hcell
          by_cases he : err = 0
          · subst he
            clear hbad hsm
            rw [if_pos rfl] at hrel2
            have HE2 := Aside0.mk hrel2
            clear hrel2
            go_wp2_with fail
            refine (roomOf r _ 1 k s m false _ c2 _ _ _ (by exact HE2.out.ring.head)).mono ?_
            rintro e w9 ⟨rfl, rfl⟩
            go_upto_region 26 with fail
            go_cut [15] (fun s15 wx => s15 = .bool (moved || mv2) ∧ wx = w8)
            case first =>
              cases moved
              all_goals
                go_wp2_with fail
                go_meet
                exact ⟨rfl, rfl⟩
            case rest =>
              obtain ⟨rfl, rfl⟩ := hcut
              generalize (moved || mv2) = mvd at HE2 ⊢
              have hf0 : wc.cell? ⟨fb, fo, none⟩ = some (.int .u8 f0) := by
                obtain ⟨ad, e1, e2⟩ := HF.out.2.2 (by simp)
                obtain rfl := Option.some.inj e1
                have h0 := e2 0 (by simp)
                obtain ⟨ad', e3, hlt'⟩ := reads_lt HF.out (by simp)
                obtain rfl := Option.some.inj e3
                have h1 : w.cell? ⟨fb, fo, none⟩ = some (.int .u8 f0) := by simpa [Addr.add] using h0
                rw [← h1]
                exact Below.cell HE2.out.below (p := ⟨fb, fo, none⟩) hlt'
              have HF0 := Lib.hid hf0
              go_upto_region 27 with fail
              go_cut [21] (fun s21 wx => ∃ x, s21 = .int .u8 x ∧ wx = wc)
              case first =>
                go_wp2_with fail
                go_meet
                exact ⟨_, rfl, rfl⟩
              case rest =>
                obtain ⟨x, rfl, rfl⟩ := hcut
                obtain ⟨⟨ys3, xs3, hR3, hx3⟩, hl3, hb3, hu3⟩ := HE2.out.poked x
                obtain ⟨v, hv⟩ : ∃ v, v = if mvd then f0 else x := ⟨_, rfl⟩
                rw [← hv] at hx3
                have hx31 : 0 + 1 ≤ xs3.length ∧ (xs3.drop 0).take 1 = [v] := by
                  cases xs3 with
                  | nil => cases hx3
                  | cons a l =>
                    have : a = v := by simpa using hx3
                    subst this
                    exact ⟨by simp, by simp⟩
                have HR3 := Aside0.mk hR3
                have HU3 := Aside0.mk hu3
                have HX3 := Lib.hid hx31
                have HV := Lib.hid hv
                have hcl := HE2.out.look.cell 0 HE2.out.some_ls
                have hfz := HE2.out.look.frozen 0
                have hfl : fb ≠ lb := by
                  obtain ⟨ad, e3, hlt'⟩ := reads_lt HF.out (by simp)
                  obtain rfl := Option.some.inj e3
                  have := HE2.out.lb_young
                  simp only at hlt'
                  omega
                clear hR3 hx3 hl3 hb3 hu3 hv hx31 hf0
                go_wp2_with fail
                refine (peek HR3.out 0 1 HX3.out.1).mono ?_
                rintro e w10 ⟨PB, pcap, rfl, hN⟩
                rw [HX3.out.2] at hN
                have hpb : ∃ gB, PB = some ⟨gB, 0, none⟩ ∧ w10.cell? ⟨gB, 0, none⟩ = some (.int .u8 v) := by
                  obtain ⟨ad, e1, e2⟩ := hN.reads.2.2 (by omega)
                  obtain ⟨gB, rfl, _⟩ := hN.young ad e1
                  refine ⟨gB, e1, ?_⟩
                  have := e2 0 (by omega)
                  simpa [add_zero'] using this
                obtain ⟨gB, rfl, hpc⟩ := hpb
                have HB10 := Aside0.mk hN.below
                have HR10 := Aside0.mk (HR3.out.below hN.below)
                clear hN hcl hfz
                have hf10 : w10.cell? ⟨fb, fo, none⟩ = some (.int .u8 f0) := by
                  obtain ⟨ad, e3, hlt'⟩ := reads_lt HF.out (by simp)
                  obtain rfl := Option.some.inj e3
                  rw [Below.cell HB10.out (p := ⟨fb, fo, none⟩) (by have := HU3.out.size; have := HE2.out.below.size; simp only at hlt' ⊢; omega), World.cell?_setCell_far _ _ _ _ (Ne.symm hfl), HF0.out]
                go_upto_region 30 with fail
                go_cut [157] (fun z9 wx => z9 = .bool false ∧ ∃ n, wx = w10.drewN n)
                case first =>
                  have hst := HE2.out.still
                  cases mvd with
                  | true =>
                    obtain rfl : v = f0 := HV.out
                    clear hst
                    go_quiet ((go_at_call 19; refine Calls.quiet_of_same ((roomOf r _ 1 k s m false _ c2 _ _ _ (by exact HR10.out.head)).mono (fun e w' h => ⟨h.1, h.2.symm⟩))))
                    go_wp2_with fail
                    go_meet
                    exact ⟨rfl, _, rfl⟩
                  | false =>
                    obtain rfl : v = x := HV.out
                    obtain ⟨_, rfl⟩ := hst rfl
                    clear hst
                    go_quiet ((go_at_call 19; refine Calls.quiet_of_same ((roomOf r _ 1 k s m false _ c2 _ _ _ (by exact HR10.out.head)).mono (fun e w' h => ⟨h.1, h.2.symm⟩))))
                    go_wp2_with fail
                    go_meet
                    exact ⟨rfl, _, rfl⟩
                case rest =>
                  obtain ⟨rfl, n10, rfl⟩ := hcut
                  have hsl := sub_to (some ⟨fb, fo, none⟩) (fs.length + 1) fc 1 1 rfl (by omega) hfl2
                  obtain ⟨mb, hmb⟩ := HE2.out.mem
                  have HFR : Aside0 (ReadsInt w .u8 (some ⟨fb, fo, none⟩) [f0].length [f0]) := ⟨by simpa using HF.out.take_ 1 (by simp)⟩
                  have hfw : fb < w.heap.size := by
                    obtain ⟨ad, e3, hlt'⟩ := reads_lt HF.out (by simp)
                    obtain rfl := Option.some.inj e3
                    exact hlt'
                  have hW10 : Below w.heap.size w w10 := HE2.out.below.trans ((HU3.out.below HE2.out.below.size (fun j hj => hj ▸ HE2.out.lb_young)).trans (HB10.out.mono (Nat.le_trans HE2.out.below.size HU3.out.size)))
                  have HF10 := Aside0.mk (HFR.out.below hW10)
                  have hmy : w.heap.size ≤ mb := HE2.out.m_young mb hmb
                  have HSet := Aside0.mk (fun u : World => fun hu : Below w10.heap.size w10 u => Ring.set (HR10.out.below hu) mb hmb 0 (some ⟨fb, fo, none⟩) fc [f0] (HF10.out.below hu) (fun h => by cases h) (by simp) (by have := HX3.out.1; simpa using this))
                  have HNX : Aside0 (∀ u u', Below w10.heap.size w10 u → RingAt u' r (w.heap.size + 1 + 1) 1 k s m MA2 c2 0 (ringPut ys3 [f0] (cellS c2 0 0)) (xs3.take 0 ++ [f0] ++ xs3.drop (0 + [f0].length)) → Upd (fun j => j = mb) u u' → ∃ ls5, MovesRel w u' r (w.heap.size + 1 + 1) k s m f0 lb c' mvd MA2 c2 (ringPut ys3 [f0] (cellS c2 0 0)) (xs3.take 0 ++ [f0] ++ xs3.drop (0 + [f0].length)) b2 q2 ls5 ∧ ls5[0]? = some (if mvd then x else f0)) := ⟨fun u u' h1 h2 h3 => HE2.out.next hmb ((Upd.of_below (S := fun j => j = mb) (below_then HB10.out HB10.out.size h1)).then h3 (fun j hj => .inl hj)) h2 (by simp)⟩
                  have HLF : ∀ u' ys5 xs5 ls5, MovesRel w u' r (w.heap.size + 1 + 1) k s m f0 lb c' mvd MA2 c2 ys5 xs5 b2 q2 ls5 → ls5[0]? = some (if mvd then x else f0) → u'.cell? ⟨lb, 0, none⟩ = some (.int .u8 (if mvd then x else f0)) ∧ u'.cell? ⟨fb, fo, none⟩ = some (.int .u8 f0) := fun u' ys5 xs5 ls5 hM h0 => by
                    constructor
                    · have := hM.look.cell 0 hM.some_ls
                      rw [List.getD_eq_getElem?_getD, h0] at this
                      exact this
                    · have h1 := hM.below.cell (p := ⟨fb, fo, none⟩) hfw
                      have h2 := hW10.cell (p := ⟨fb, fo, none⟩) hfw
                      rw [h1, ← h2]; exact hf10
                  have HLF := Aside0.mk HLF
                  have hlx : w10.cell? ⟨lb, 0, none⟩ = some (.int .u8 x) := by
                    obtain ⟨_, hl3, _⟩ := HE2.out.poked x
                    have h1 := hl3.cell 0 (by rw [List.length_set]; exact HE2.out.some_ls)
                    have h2 : (ls2.set 0 x).getD 0 0 = x := by
                      have := HE2.out.some_ls
                      cases ls2 with
                      | nil => simp at this
                      | cons a l => simp
                    rw [h2] at h1
                    rw [← h1]
                    exact HB10.out.cell (p := ⟨lb, 0, none⟩) hl3.lt
                  go_upto_region 32 with fail
                  go_cut [185] (fun z9 wx => z9 = .bool false ∧ ∃ ys5 xs5 ls5, Aside0 (MovesRel w wx r (w.heap.size + 1 + 1) k s m f0 lb c' mvd MA2 c2 ys5 xs5 b2 q2 ls5))
                  case first =>
                    cases mvd with
                    | true =>
                      refine wp_region_held_drew (S := fun w' => w'.cell? ⟨lb, 0, none⟩ = some (.int .u8 x) ∧ w'.cell? ⟨fb, fo, none⟩ = some (.int .u8 f0)) (by kernel_rfl) ⟨hlx, hf10⟩ (fun hHeld => ?_)
                      refine wpAnyH_take (i := 0) (oi := ⟨some 158, _, _, _, _, _⟩) (v := ?_) rfl (by kernel_rfl) (by kernel_rfl) (by kernel_rfl) (fun _ _ _ h => h) (Or.inl ⟨rfl, ?_⟩) (by assumption) ?_
                      rotate_left
                      · (intro w hSw; (try dsimp only at hSw); go_simp; try with_reducible rfl)
                      try simp only [Act.put, List.setIfInBounds_toArray, List.set_cons_zero, List.set_cons_succ]
                      refine wpAnyH_take (i := 1) (oi := ⟨some 159, _, _, _, _, _⟩) (v := ?_) rfl (by kernel_rfl) (by kernel_rfl) (by kernel_rfl) (fun _ _ _ h => h) (Or.inl ⟨rfl, ?_⟩) (by assumption) ?_
                      rotate_left
                      · (intro w hSw; (try dsimp only at hSw); go_simp; try with_reducible rfl)
                      try simp only [Act.put, List.setIfInBounds_toArray, List.set_cons_zero, List.set_cons_succ]
                      refine wpAnyH_take (i := 2) (oi := ⟨some 160, _, _, _, _, _⟩) (v := ?_) rfl (by kernel_rfl) (by kernel_rfl) (by kernel_rfl) (fun _ _ _ h => h) (Or.inl ⟨rfl, ?_⟩) (by assumption) ?_
                      rotate_left
                      · (intro w hSw; (try dsimp only at hSw); go_simp; try with_reducible rfl)
                      try simp only [Act.put, List.setIfInBounds_toArray, List.set_cons_zero, List.set_cons_succ]
                      refine wpAnyH_ready (rs := [3]) (by kernel_rfl) (by simp) (AllReadyH.cons (o := ⟨some 161, _, _, _, _, _⟩) rfl (fun K hK => ?_) AllReadyH.nil)
                      (go_simp; go_at_call 21; refine (HSet.out _ (below_drew (pw_below_drewN (Below.refl _ _) n10))).mono ?_; rintro e u' ⟨rfl, h2, h3⟩; obtain ⟨ls5, hM5, h50⟩ := HNX.out _ u' (below_drew (pw_below_drewN (Below.refl _ _) n10)) h2 h3; obtain ⟨hl5, hl6⟩ := HLF.out _ _ _ _ hM5 h50; have HM5 := Aside0.mk hM5; clear h2 h3 hM5 h50; go_wp2_with fail)
                      refine hK.out _ _ ⟨hl5, hl6⟩ (fun hHeld3 => ?_)
                      clear hK K
                      try simp only [Act.put, List.setIfInBounds_toArray, List.set_cons_zero, List.set_cons_succ]
                      refine wpAnyH_take (i := 4) (oi := ⟨some 162, _, _, _, _, _⟩) (v := ?_) rfl (by kernel_rfl) (by kernel_rfl) (by kernel_rfl) (fun _ _ _ h => h) (Or.inl ⟨rfl, ?_⟩) (by assumption) ?_
                      rotate_left
                      · (intro w hSw; (try dsimp only at hSw); go_simp; try with_reducible rfl)
                      try simp only [Act.put, List.setIfInBounds_toArray, List.set_cons_zero, List.set_cons_succ]
                      refine wpAnyH_take (i := 5) (oi := ⟨some 163, _, _, _, _, _⟩) (v := ?_) rfl (by kernel_rfl) (by kernel_rfl) (by kernel_rfl) (fun _ _ _ h => h) (Or.inl ⟨rfl, ?_⟩) (by assumption) ?_
                      rotate_left
                      · (intro w hSw; (try dsimp only at hSw); go_simp; try with_reducible rfl)
                      try simp only [Act.put, List.setIfInBounds_toArray, List.set_cons_zero, List.set_cons_succ]
                      refine wpAnyH_take (i := 6) (oi := ⟨some 164, _, _, _, _, _⟩) (v := ?_) rfl (by kernel_rfl) (by kernel_rfl) (by kernel_rfl) (fun _ _ _ h => h) (Or.inl ⟨rfl, ?_⟩) (by assumption) ?_
                      rotate_left
                      · (intro w hSw; (try dsimp only at hSw); go_simp; try with_reducible rfl)
                      try simp only [Act.put, List.setIfInBounds_toArray, List.set_cons_zero, List.set_cons_succ]
                      refine wpAnyH_take (i := 7) (oi := ⟨some 165, _, _, _, _, _⟩) (v := ?_) rfl (by kernel_rfl) (by kernel_rfl) (by kernel_rfl) (fun _ _ _ h => h) (Or.inl ⟨rfl, ?_⟩) (by assumption) ?_
                      rotate_left
                      · (intro w hSw; (try dsimp only at hSw); go_simp; try with_reducible rfl)
                      try simp only [Act.put, List.setIfInBounds_toArray, List.set_cons_zero, List.set_cons_succ]
                      refine wpAnyH_take (i := 8) (oi := ⟨some 166, _, _, _, _, _⟩) (v := ?_) rfl (by kernel_rfl) (by kernel_rfl) (by kernel_rfl) (fun _ _ _ h => h) (Or.inl ⟨rfl, ?_⟩) (by assumption) ?_
                      rotate_left
                      · (intro w hSw; (try dsimp only at hSw); go_simp; try with_reducible rfl)
                      try simp only [Act.put, List.setIfInBounds_toArray, List.set_cons_zero, List.set_cons_succ]
                      refine wpAnyH_take (i := 9) (oi := ⟨some 167, _, _, _, _, _⟩) (v := ?_) rfl (by kernel_rfl) (by kernel_rfl) (by kernel_rfl) (fun _ _ _ h => h) (Or.inl ⟨rfl, ?_⟩) (by assumption) ?_
                      rotate_left
                      · (intro w hSw; (try dsimp only at hSw); go_simp; try with_reducible rfl)
                      try simp only [Act.put, List.setIfInBounds_toArray, List.set_cons_zero, List.set_cons_succ]
                      refine wpAnyH_take (i := 10) (oi := ⟨some 168, _, _, _, _, _⟩) (v := ?_) rfl (by kernel_rfl) (by kernel_rfl) (by kernel_rfl) (fun _ _ _ h => h) (Or.inl ⟨rfl, ?_⟩) (by assumption) ?_
                      rotate_left
                      · (intro w hSw; (try dsimp only at hSw); go_simp; try with_reducible rfl)
                      try simp only [Act.put, List.setIfInBounds_toArray, List.set_cons_zero, List.set_cons_succ]
                      refine wpAnyH_take (i := 11) (oi := ⟨some 169, _, _, _, _, _⟩) (v := ?_) rfl (by kernel_rfl) (by kernel_rfl) (by kernel_rfl) (fun _ _ _ h => h) (Or.inl ⟨rfl, ?_⟩) (by assumption) ?_
                      rotate_left
                      · (intro w hSw; (try dsimp only at hSw); go_simp; try with_reducible rfl)
                      try simp only [Act.put, List.setIfInBounds_toArray, List.set_cons_zero, List.set_cons_succ]
                      refine wpAnyH_take (i := 12) (oi := ⟨some 170, _, _, _, _, _⟩) (v := ?_) rfl (by kernel_rfl) (by kernel_rfl) (by kernel_rfl) (fun _ _ _ h => h) (Or.inl ⟨rfl, ?_⟩) (by assumption) ?_
                      rotate_left
                      · (intro w hSw; (try dsimp only at hSw); go_simp; try with_reducible rfl)
                      try simp only [Act.put, List.setIfInBounds_toArray, List.set_cons_zero, List.set_cons_succ]
                      refine wpAnyH_take (i := 13) (oi := ⟨some 171, _, _, _, _, _⟩) (v := ?_) rfl (by kernel_rfl) (by kernel_rfl) (by kernel_rfl) (fun _ _ _ h => h) (Or.inl ⟨rfl, ?_⟩) (by assumption) ?_
                      rotate_left
                      · (intro w hSw; (try dsimp only at hSw); go_simp; try with_reducible rfl)
                      try simp only [Act.put, List.setIfInBounds_toArray, List.set_cons_zero, List.set_cons_succ]
                      refine wpAnyH_take (i := 14) (oi := ⟨some 172, _, _, _, _, _⟩) (v := ?_) rfl (by kernel_rfl) (by kernel_rfl) (by kernel_rfl) (fun _ _ _ h => h) (Or.inl ⟨rfl, ?_⟩) (by assumption) ?_
                      rotate_left
                      · (intro w hSw; (try dsimp only at hSw); go_simp; try with_reducible rfl)
                      try simp only [Act.put, List.setIfInBounds_toArray, List.set_cons_zero, List.set_cons_succ]
                      refine wpAnyH_take (i := 15) (oi := ⟨some 173, _, _, _, _, _⟩) (v := ?_) rfl (by kernel_rfl) (by kernel_rfl) (by kernel_rfl) (fun _ _ _ h => h) (Or.inl ⟨rfl, ?_⟩) (by assumption) ?_
                      rotate_left
                      · (intro w hSw; (try dsimp only at hSw); go_simp; try with_reducible rfl)
                      try simp only [Act.put, List.setIfInBounds_toArray, List.set_cons_zero, List.set_cons_succ]
                      refine wpAnyH_take (i := 16) (oi := ⟨some 174, _, _, _, _, _⟩) (v := ?_) rfl (by kernel_rfl) (by kernel_rfl) (by kernel_rfl) (fun _ _ _ h => h) (Or.inl ⟨rfl, ?_⟩) (by assumption) ?_
                      rotate_left
                      · (intro w hSw; (try dsimp only at hSw); go_simp; try with_reducible rfl)
                      try simp only [Act.put, List.setIfInBounds_toArray, List.set_cons_zero, List.set_cons_succ]
                      refine wpAnyH_take (i := 17) (oi := ⟨some 175, _, _, _, _, _⟩) (v := ?_) rfl (by kernel_rfl) (by kernel_rfl) (by kernel_rfl) (fun _ _ _ h => h) (Or.inl ⟨rfl, ?_⟩) (by assumption) ?_
                      rotate_left
                      · (intro w hSw; (try dsimp only at hSw); go_simp; try with_reducible rfl)
                      try simp only [Act.put, List.setIfInBounds_toArray, List.set_cons_zero, List.set_cons_succ]
                      refine wpAnyH_take (i := 18) (oi := ⟨some 176, _, _, _, _, _⟩) (v := ?_) rfl (by kernel_rfl) (by kernel_rfl) (by kernel_rfl) (fun _ _ _ h => h) (Or.inl ⟨rfl, ?_⟩) (by assumption) ?_
                      rotate_left
                      · (intro w hSw; (try dsimp only at hSw); go_simp; try with_reducible rfl)
                      try simp only [Act.put, List.setIfInBounds_toArray, List.set_cons_zero, List.set_cons_succ]
                      refine wpAnyH_take (i := 19) (oi := ⟨some 177, _, _, _, _, _⟩) (v := undef) rfl (by kernel_rfl) (by kernel_rfl) (by kernel_rfl) (fun _ _ _ h => h) (Or.inr ⟨rfl, rfl⟩) (by assumption) ?_
                      try simp only [Act.put, List.setIfInBounds_toArray, List.set_cons_zero, List.set_cons_succ]
                      refine wpAnyH_take (i := 20) (oi := ⟨some 178, _, _, _, _, _⟩) (v := undef) rfl (by kernel_rfl) (by kernel_rfl) (by kernel_rfl) (fun _ _ _ h => h) (Or.inr ⟨rfl, rfl⟩) (by assumption) ?_
                      try simp only [Act.put, List.setIfInBounds_toArray, List.set_cons_zero, List.set_cons_succ]
                      refine wpAnyH_take (i := 21) (oi := ⟨some 179, _, _, _, _, _⟩) (v := undef) rfl (by kernel_rfl) (by kernel_rfl) (by kernel_rfl) (fun _ _ _ h => h) (Or.inr ⟨rfl, rfl⟩) (by assumption) ?_
                      try simp only [Act.put, List.setIfInBounds_toArray, List.set_cons_zero, List.set_cons_succ]
                      refine wpAnyH_take (i := 22) (oi := ⟨some 180, _, _, _, _, _⟩) (v := undef) rfl (by kernel_rfl) (by kernel_rfl) (by kernel_rfl) (fun _ _ _ h => h) (Or.inr ⟨rfl, rfl⟩) (by assumption) ?_
                      try simp only [Act.put, List.setIfInBounds_toArray, List.set_cons_zero, List.set_cons_succ]
                      refine wpAnyH_take (i := 23) (oi := ⟨some 181, _, _, _, _, _⟩) (v := undef) rfl (by kernel_rfl) (by kernel_rfl) (by kernel_rfl) (fun _ _ _ h => h) (Or.inr ⟨rfl, rfl⟩) (by assumption) ?_
                      try simp only [Act.put, List.setIfInBounds_toArray, List.set_cons_zero, List.set_cons_succ]
                      refine wpAnyH_take (i := 24) (oi := ⟨some 182, _, _, _, _, _⟩) (v := undef) rfl (by kernel_rfl) (by kernel_rfl) (by kernel_rfl) (fun _ _ _ h => h) (Or.inr ⟨rfl, rfl⟩) (by assumption) ?_
                      try simp only [Act.put, List.setIfInBounds_toArray, List.set_cons_zero, List.set_cons_succ]
                      refine wpAnyH_take (i := 25) (oi := ⟨some 183, _, _, _, _, _⟩) (v := undef) rfl (by kernel_rfl) (by kernel_rfl) (by kernel_rfl) (fun _ _ _ h => h) (Or.inr ⟨rfl, rfl⟩) (by assumption) ?_
                      try simp only [Act.put, List.setIfInBounds_toArray, List.set_cons_zero, List.set_cons_succ]
                      refine wpAnyH_take (i := 26) (oi := ⟨some 184, _, _, _, _, _⟩) (v := ?_) rfl (by kernel_rfl) (by kernel_rfl) (by kernel_rfl) (fun _ _ _ h => h) (Or.inl ⟨rfl, ?_⟩) (by assumption) ?_
                      rotate_left
                      · (intro w hSw; (try dsimp only at hSw); go_simp; try with_reducible rfl)
                      try simp only [Act.put, List.setIfInBounds_toArray, List.set_cons_zero, List.set_cons_succ]
                      refine wpAnyH_take (i := 27) (oi := ⟨some 185, _, _, _, _, _⟩) (v := ?_) rfl (by kernel_rfl) (by kernel_rfl) (by kernel_rfl) (fun _ _ _ h => h) (Or.inl ⟨rfl, ?_⟩) (by assumption) ?_
                      rotate_left
                      · (intro w hSw; (try dsimp only at hSw); go_simp; try with_reducible rfl)
                      try simp only [Act.put, List.setIfInBounds_toArray, List.set_cons_zero, List.set_cons_succ]
                      refine wpAnyH_done (by kernel_rfl) ?_ _
                      go_wp2_with fail
                      go_meet
                      exact ⟨rfl, _, _, _, HM5⟩
                    | false =>
                      refine wp_region_held_drew (S := fun w' => w'.cell? ⟨fb, fo, none⟩ = some (.int .u8 f0)) (by kernel_rfl) hf10 (fun hHeld => ?_)
                      refine wpAnyH_take (i := 0) (oi := ⟨some 158, _, _, _, _, _⟩) (v := ?_) rfl (by kernel_rfl) (by kernel_rfl) (by kernel_rfl) (fun _ _ _ h => h) (Or.inl ⟨rfl, ?_⟩) (by assumption) ?_
                      rotate_left
                      · (intro w hSw; (try dsimp only at hSw); go_simp; try with_reducible rfl)
                      try simp only [Act.put, List.setIfInBounds_toArray, List.set_cons_zero, List.set_cons_succ]
                      refine wpAnyH_take (i := 1) (oi := ⟨some 159, _, _, _, _, _⟩) (v := ?_) rfl (by kernel_rfl) (by kernel_rfl) (by kernel_rfl) (fun _ _ _ h => h) (Or.inl ⟨rfl, ?_⟩) (by assumption) ?_
                      rotate_left
                      · (intro w hSw; (try dsimp only at hSw); go_simp; try with_reducible rfl)
                      try simp only [Act.put, List.setIfInBounds_toArray, List.set_cons_zero, List.set_cons_succ]
                      refine wpAnyH_take (i := 2) (oi := ⟨some 160, _, _, _, _, _⟩) (v := ?_) rfl (by kernel_rfl) (by kernel_rfl) (by kernel_rfl) (fun _ _ _ h => h) (Or.inl ⟨rfl, ?_⟩) (by assumption) ?_
                      rotate_left
                      · (intro w hSw; (try dsimp only at hSw); go_simp; try with_reducible rfl)
                      try simp only [Act.put, List.setIfInBounds_toArray, List.set_cons_zero, List.set_cons_succ]
                      refine wpAnyH_ready (rs := [3]) (by kernel_rfl) (by simp) (AllReadyH.cons (o := ⟨some 161, _, _, _, _, _⟩) rfl (fun K hK => ?_) AllReadyH.nil)
                      (go_simp; go_at_call 21; refine (HSet.out _ (below_drew (pw_below_drewN (Below.refl _ _) n10))).mono ?_; rintro e u' ⟨rfl, h2, h3⟩; obtain ⟨ls5, hM5, h50⟩ := HNX.out _ u' (below_drew (pw_below_drewN (Below.refl _ _) n10)) h2 h3; obtain ⟨hl5, hl6⟩ := HLF.out _ _ _ _ hM5 h50; have HM5 := Aside0.mk hM5; clear h2 h3 hM5 h50; go_wp2_with fail)
                      refine hK.out _ _ hl6 (fun hHeld3 => ?_)
                      clear hK K
                      try simp only [Act.put, List.setIfInBounds_toArray, List.set_cons_zero, List.set_cons_succ]
                      refine wpAnyH_take (i := 4) (oi := ⟨some 162, _, _, _, _, _⟩) (v := ?_) rfl (by kernel_rfl) (by kernel_rfl) (by kernel_rfl) (fun _ _ _ h => h) (Or.inl ⟨rfl, ?_⟩) (by assumption) ?_
                      rotate_left
                      · (intro w hSw; (try dsimp only at hSw); go_simp; try with_reducible rfl)
                      try simp only [Act.put, List.setIfInBounds_toArray, List.set_cons_zero, List.set_cons_succ]
                      refine wpAnyH_take (i := 5) (oi := ⟨some 163, _, _, _, _, _⟩) (v := ?_) rfl (by kernel_rfl) (by kernel_rfl) (by kernel_rfl) (fun _ _ _ h => h) (Or.inl ⟨rfl, ?_⟩) (by assumption) ?_
                      rotate_left
                      · (intro w hSw; (try dsimp only at hSw); go_simp; try with_reducible rfl)
                      try simp only [Act.put, List.setIfInBounds_toArray, List.set_cons_zero, List.set_cons_succ]
                      refine wpAnyH_take (i := 6) (oi := ⟨some 164, _, _, _, _, _⟩) (v := ?_) rfl (by kernel_rfl) (by kernel_rfl) (by kernel_rfl) (fun _ _ _ h => h) (Or.inl ⟨rfl, ?_⟩) (by assumption) ?_
                      rotate_left
                      · (intro w hSw; (try dsimp only at hSw); go_simp; try with_reducible rfl)
                      try simp only [Act.put, List.setIfInBounds_toArray, List.set_cons_zero, List.set_cons_succ]
                      refine wpAnyH_take (i := 7) (oi := ⟨some 165, _, _, _, _, _⟩) (v := ?_) rfl (by kernel_rfl) (by kernel_rfl) (by kernel_rfl) (fun _ _ _ h => h) (Or.inl ⟨rfl, ?_⟩) (by assumption) ?_
                      rotate_left
                      · (intro w hSw; (try dsimp only at hSw); go_simp; try with_reducible rfl)
                      try simp only [Act.put, List.setIfInBounds_toArray, List.set_cons_zero, List.set_cons_succ]
                      refine wpAnyH_take (i := 8) (oi := ⟨some 166, _, _, _, _, _⟩) (v := undef) rfl (by kernel_rfl) (by kernel_rfl) (by kernel_rfl) (fun _ _ _ h => h) (Or.inr ⟨rfl, rfl⟩) (by assumption) ?_
                      try simp only [Act.put, List.setIfInBounds_toArray, List.set_cons_zero, List.set_cons_succ]
                      refine wpAnyH_take (i := 9) (oi := ⟨some 167, _, _, _, _, _⟩) (v := undef) rfl (by kernel_rfl) (by kernel_rfl) (by kernel_rfl) (fun _ _ _ h => h) (Or.inr ⟨rfl, rfl⟩) (by assumption) ?_
                      try simp only [Act.put, List.setIfInBounds_toArray, List.set_cons_zero, List.set_cons_succ]
                      refine wpAnyH_take (i := 10) (oi := ⟨some 168, _, _, _, _, _⟩) (v := undef) rfl (by kernel_rfl) (by kernel_rfl) (by kernel_rfl) (fun _ _ _ h => h) (Or.inr ⟨rfl, rfl⟩) (by assumption) ?_
                      try simp only [Act.put, List.setIfInBounds_toArray, List.set_cons_zero, List.set_cons_succ]
                      refine wpAnyH_take (i := 11) (oi := ⟨some 169, _, _, _, _, _⟩) (v := undef) rfl (by kernel_rfl) (by kernel_rfl) (by kernel_rfl) (fun _ _ _ h => h) (Or.inr ⟨rfl, rfl⟩) (by assumption) ?_
                      try simp only [Act.put, List.setIfInBounds_toArray, List.set_cons_zero, List.set_cons_succ]
                      refine wpAnyH_take (i := 12) (oi := ⟨some 170, _, _, _, _, _⟩) (v := undef) rfl (by kernel_rfl) (by kernel_rfl) (by kernel_rfl) (fun _ _ _ h => h) (Or.inr ⟨rfl, rfl⟩) (by assumption) ?_
                      try simp only [Act.put, List.setIfInBounds_toArray, List.set_cons_zero, List.set_cons_succ]
                      refine wpAnyH_take (i := 13) (oi := ⟨some 171, _, _, _, _, _⟩) (v := ?_) rfl (by kernel_rfl) (by kernel_rfl) (by kernel_rfl) (fun _ _ _ h => h) (Or.inl ⟨rfl, ?_⟩) (by assumption) ?_
                      rotate_left
                      · (intro w hSw; (try dsimp only at hSw); go_simp; try with_reducible rfl)
                      try simp only [Act.put, List.setIfInBounds_toArray, List.set_cons_zero, List.set_cons_succ]
                      refine wpAnyH_take (i := 14) (oi := ⟨some 172, _, _, _, _, _⟩) (v := ?_) rfl (by kernel_rfl) (by kernel_rfl) (by kernel_rfl) (fun _ _ _ h => h) (Or.inl ⟨rfl, ?_⟩) (by assumption) ?_
                      rotate_left
                      · (intro w hSw; (try dsimp only at hSw); go_simp; try with_reducible rfl)
                      try simp only [Act.put, List.setIfInBounds_toArray, List.set_cons_zero, List.set_cons_succ]
                      refine wpAnyH_take (i := 15) (oi := ⟨some 173, _, _, _, _, _⟩) (v := ?_) rfl (by kernel_rfl) (by kernel_rfl) (by kernel_rfl) (fun _ _ _ h => h) (Or.inl ⟨rfl, ?_⟩) (by assumption) ?_
                      rotate_left
                      · (intro w hSw; (try dsimp only at hSw); go_simp; try with_reducible rfl)
                      try simp only [Act.put, List.setIfInBounds_toArray, List.set_cons_zero, List.set_cons_succ]
                      refine wpAnyH_take (i := 16) (oi := ⟨some 174, _, _, _, _, _⟩) (v := ?_) rfl (by kernel_rfl) (by kernel_rfl) (by kernel_rfl) (fun _ _ _ h => h) (Or.inl ⟨rfl, ?_⟩) (by assumption) ?_
                      rotate_left
                      · (intro w hSw; (try dsimp only at hSw); go_simp; try with_reducible rfl)
                      try simp only [Act.put, List.setIfInBounds_toArray, List.set_cons_zero, List.set_cons_succ]
                      refine wpAnyH_take (i := 17) (oi := ⟨some 175, _, _, _, _, _⟩) (v := ?_) rfl (by kernel_rfl) (by kernel_rfl) (by kernel_rfl) (fun _ _ _ h => h) (Or.inl ⟨rfl, ?_⟩) (by assumption) ?_
                      rotate_left
                      · (intro w hSw; (try dsimp only at hSw); go_simp; try with_reducible rfl)
                      try simp only [Act.put, List.setIfInBounds_toArray, List.set_cons_zero, List.set_cons_succ]
                      refine wpAnyH_take (i := 18) (oi := ⟨some 176, _, _, _, _, _⟩) (v := ?_) rfl (by kernel_rfl) (by kernel_rfl) (by kernel_rfl) (fun _ _ _ h => h) (Or.inl ⟨rfl, ?_⟩) (by assumption) ?_
                      rotate_left
                      · (intro w hSw; (try dsimp only at hSw); go_simp; try with_reducible rfl)
                      try simp only [Act.put, List.setIfInBounds_toArray, List.set_cons_zero, List.set_cons_succ]
                      refine wpAnyH_take (i := 19) (oi := ⟨some 177, _, _, _, _, _⟩) (v := ?_) rfl (by kernel_rfl) (by kernel_rfl) (by kernel_rfl) (fun _ _ _ h => h) (Or.inl ⟨rfl, ?_⟩) (by assumption) ?_
                      rotate_left
                      · (intro w hSw; (try dsimp only at hSw); go_simp; try with_reducible rfl)
                      try simp only [Act.put, List.setIfInBounds_toArray, List.set_cons_zero, List.set_cons_succ]
                      refine wpAnyH_take (i := 20) (oi := ⟨some 178, _, _, _, _, _⟩) (v := ?_) rfl (by kernel_rfl) (by kernel_rfl) (by kernel_rfl) (fun _ _ _ h => h) (Or.inl ⟨rfl, ?_⟩) (by assumption) ?_
                      rotate_left
                      · (intro w hSw; (try dsimp only at hSw); go_simp; try with_reducible rfl)
                      try simp only [Act.put, List.setIfInBounds_toArray, List.set_cons_zero, List.set_cons_succ]
                      refine wpAnyH_take (i := 22) (oi := ⟨some 180, _, _, _, _, _⟩) (v := ?_) rfl (by kernel_rfl) (by kernel_rfl) (by kernel_rfl) (fun _ _ _ h => h) (Or.inl ⟨rfl, ?_⟩) (by assumption) ?_
                      rotate_left
                      · (intro w hSw; (try dsimp only at hSw); go_simp; try with_reducible rfl)
                      try simp only [Act.put, List.setIfInBounds_toArray, List.set_cons_zero, List.set_cons_succ]
                      refine wpAnyH_take (i := 23) (oi := ⟨some 181, _, _, _, _, _⟩) (v := ?_) rfl (by kernel_rfl) (by kernel_rfl) (by kernel_rfl) (fun _ _ _ h => h) (Or.inl ⟨rfl, ?_⟩) (by assumption) ?_
                      rotate_left
                      · (intro w hSw; (try dsimp only at hSw); go_simp; try with_reducible rfl)
                      try simp only [Act.put, List.setIfInBounds_toArray, List.set_cons_zero, List.set_cons_succ]
                      refine wpAnyH_take (i := 24) (oi := ⟨some 182, _, _, _, _, _⟩) (v := ?_) rfl (by kernel_rfl) (by kernel_rfl) (by kernel_rfl) (fun _ _ _ h => h) (Or.inl ⟨rfl, ?_⟩) (by assumption) ?_
                      rotate_left
                      · (intro w hSw; (try dsimp only at hSw); go_simp; try with_reducible rfl)
                      try simp only [Act.put, List.setIfInBounds_toArray, List.set_cons_zero, List.set_cons_succ]
                      refine wpAnyH_ready (rs := [21]) (by kernel_rfl) (by simp) (AllReadyH.cons (o := ⟨some 179, _, _, _, _, _⟩) rfl (fun K hK => ?_) AllReadyH.nil)
                      go_simp
                      refine hK.out _ _ hl6 (fun hHeld21 => ?_)
                      clear hK K
                      try simp only [Act.put, List.setIfInBounds_toArray, List.set_cons_zero, List.set_cons_succ]
                      refine wpAnyH_take (i := 25) (oi := ⟨some 183, _, _, _, _, _⟩) (v := ?_) rfl (by kernel_rfl) (by kernel_rfl) (by kernel_rfl) (fun _ _ _ h => h) (Or.inl ⟨rfl, ?_⟩) (by assumption) ?_
                      rotate_left
                      · (intro w hSw; (try dsimp only at hSw); go_simp; try with_reducible rfl)
                      try simp only [Act.put, List.setIfInBounds_toArray, List.set_cons_zero, List.set_cons_succ]
                      refine wpAnyH_take (i := 26) (oi := ⟨some 184, _, _, _, _, _⟩) (v := ?_) rfl (by kernel_rfl) (by kernel_rfl) (by kernel_rfl) (fun _ _ _ h => h) (Or.inl ⟨rfl, ?_⟩) (by assumption) ?_
                      rotate_left
                      · (intro w hSw; (try dsimp only at hSw); go_simp; try with_reducible rfl)
                      try simp only [Act.put, List.setIfInBounds_toArray, List.set_cons_zero, List.set_cons_succ]
                      refine wpAnyH_take (i := 27) (oi := ⟨some 185, _, _, _, _, _⟩) (v := ?_) rfl (by kernel_rfl) (by kernel_rfl) (by kernel_rfl) (fun _ _ _ h => h) (Or.inl ⟨rfl, ?_⟩) (by assumption) ?_
                      rotate_left
                      · (intro w hSw; (try dsimp only at hSw); go_simp; try with_reducible rfl)
                      try simp only [Act.put, List.setIfInBounds_toArray, List.set_cons_zero, List.set_cons_succ]
                      refine wpAnyH_done (by kernel_rfl) ?_ _
                      go_wp2_with fail
                      go_meet
                      exact ⟨rfl, _, _, _, HM5⟩
                  case rest =>
                    obtain ⟨rfl, ys5, xs5, ls5, HM5⟩ := hcut
                    go_wp2_with fail
                    refine ⟨⟨n + 1, mvd, _, _, _, _, _, _, _, by omega, by simp, rfl, HM5⟩, ?_⟩
                    show ml - ((n : Int) + 1).toNat < ml - (n : Int).toNat
                    omega
          · have hne : (err != 0) = true := by simp [he]
            obtain rfl := hbad he
            obtain rfl := hsm rfl
            rw [if_neg he, Bool.or_false] at hrel2
            have HE2 := Aside0.mk hrel2
            clear hrel2 hbad hsm hcc hcc2 hmm
            go_wp2_with fail
            refine (roomOf r _ 1 k s m false _ c2 _ _ _ (by exact HE2.out.ring.head)).mono ?_
            rintro e w9 ⟨rfl, rfl⟩
            go_wp2_with fail
            refine ⟨⟨n + 1, moved, _, _, _, _, _, _, _, by omega, by simp, rfl, HE2⟩, ?_⟩
            show ml - ((n : Int) + 1).toNat < ml - (n : Int).toNat
            omega
        · go_wp2_with fail
          go_ret
          exact ⟨rfl, HE.out.below⟩
    · have hne : (err != 0) = true := by simp [he]
      have HU := Aside0.mk (hW.upd.below HW3.out.size (fun j hj => by
        rcases hj with h | h | h
        · rw [h]; exact hry
        · cases h
        · have := HO.out.2 j h; have := HZ.out; omega))
      clear hW
      go_wp2_with fail
      go_ret
      exact ⟨rfl, HW3.out.trans HU.out⟩

theorem topMoves_row (k s m : Int) (a1 : Option Addr) (len1 cap1 : Nat) (zs1 : List Int) (a2 : Option Addr) (len2 cap2 : Nat) (T : Nat → Option Addr × Nat × Nat × List Int) (w : World) (_ : (Lit.int .i64 k).wf = true) (_ : (Lit.int .i64 s).wf = true) (_ : (Lit.int .i64 m).wf = true)
    (hrow1 : (a1 = none ∧ len1 = 0 ∧ cap1 = 0 ∧ zs1 = []) ∨
    ∃ x, a1 = some x ∧ len1 ≤ cap1 ∧ cap1 ≤ maxLen ∧ zs1.length = cap1 ∧ (∀ i, i < zs1.length → w.cell? (x.add i) = some (.int .u8 (zs1.getD i 0))) ∧ ∀ n ∈ zs1, (Lit.int .u8 n).wf = true) (y1 : len1 * 1 ≤ 140737488351232)
    (hrow2 : (a2 = none ∧ len2 = 0 ∧ cap2 = 0) ∨ ∃ x, a2 = some x ∧ len2 ≤ cap2 ∧ cap2 ≤ maxLen ∧ ∀ i, i < len2 → w.cell? (x.add i) = some (.slice (T i).1 (T i).2.1 (T i).2.2.1) ∧
      ((((T i).1 = none ∧ (T i).2.1 = 0 ∧ (T i).2.2.1 = 0 ∧ (T i).2.2.2 = []) ∨ ∃ x, (T i).1 = some x ∧ (T i).2.1 ≤ (T i).2.2.1 ∧ (T i).2.2.1 ≤ maxLen ∧ (T i).2.2.2.length = (T i).2.2.1 ∧ (∀ j, j < (T i).2.2.2.length → w.cell? (x.add j) = some (.int .u8 ((T i).2.2.2.getD j 0))) ∧ ∀ n ∈ (T i).2.2.2, (Lit.int .u8 n).wf = true)) ∧ (T i).2.1 ≤ 140737488351232) :
    Calls Try.prog 3 #[.agg #[.int .i64 k, .int .i64 s, .int .i64 m], .slice a1 len1 cap1, .slice a2 len2 cap2] w fun e w' => e = .returned (.bool true) ∧ Below w.heap.size w w' := by
  have hsome : ∀ {x : Addr} {v : Value}, w.cell? x = some v → ∃ b o, x = ⟨b, o, none⟩ ∧ b < w.heap.size := fun {x} {v} h => by
    obtain ⟨b, o, sp⟩ := x
    have hsp : sp = none := by
      cases sp with
      | none => rfl
      | some v =>
        exfalso
        simp only [World.cell?] at h
        split at h <;> simp at h
    subst hsp
    exact ⟨b, o, rfl, by simpa using World.block_lt_of_cell? w _ h⟩
  have hX : ∀ i, ∃ xs : List Int, i < len2 → (T i).2.1 = xs.length ∧ ReadsInt w .u8 (T i).1 xs.length xs := fun i => by
    by_cases hi : i < len2
    · rcases hrow2 with ⟨_, h1, _⟩ | ⟨x, _, _, _, hc⟩
      · omega
      · obtain ⟨xs, hx, hr, _⟩ := ReadsInt.ofRowC (hc i hi).2.1
        exact ⟨xs, fun _ => ⟨hx, hr⟩⟩
    · exact ⟨[], fun h => absurd h hi⟩
  obtain ⟨X, hX⟩ := Classical.axiomOfChoice hX
  have ht : Lists w a2 len2 (fun i => ((T i).1, (T i).2.2.1, X i)) := fun h0 => by
    rcases hrow2 with ⟨_, h1, _⟩ | ⟨x, rfl, _, _, hc⟩
    · omega
    · have hc0 := (hc 0 h0).1
      have e0 : x.add 0 = x := by cases x; simp [Addr.add]
      rw [e0] at hc0
      obtain ⟨b, o, rfl, hbl⟩ := hsome hc0
      refine ⟨b, o, rfl, hbl, fun i hi => ?_⟩
      obtain ⟨q1, q2, q3⟩ := hc i hi
      obtain ⟨hlen, hr⟩ := hX i hi
      rw [Oct.add_at, hlen] at q1
      refine ⟨q1, hr, by show (X i).length ≤ _; omega, fun e => ?_⟩
      rcases q2 with ⟨_, h1, h2, _⟩ | ⟨_, h1, _⟩
      · exact ⟨by show (X i).length = 0; omega, h2⟩
      · have e' : (T i).1 = none := e
        rw [e'] at h1; cases h1
  have hml : len2 ≤ cap2 ∧ len2 ≤ 9223372036854775807 := by
    rcases hrow2 with ⟨_, h1, h2⟩ | ⟨x, _, h1, h2, _⟩
    · omega
    · unfold maxLen at h2; omega
  obtain ⟨xs, rfl, hr, _, _, hcap⟩ := ReadsInt.ofRowC hrow1
  cases xs with
  | nil => exact moves_none k s m cap1 a1 a2 len2 cap2 w
  | cons f0 fs =>
    obtain ⟨ad, rfl, hc⟩ := hr.2.2 (by simp)
    have h0 := hc 0 (by simp)
    have e0 : ad.add 0 = ad := by cases ad; simp [Addr.add]
    rw [e0] at h0
    obtain ⟨fb, fo, rfl, _⟩ := hsome h0
    exact moves_some k s m f0 fs fb fo cap1 a2 len2 cap2 _ w hr (by omega) hcap hml.1 hml.2 ht
end Go.Proofs.Ythhnmanhehbbhaa.Ring
