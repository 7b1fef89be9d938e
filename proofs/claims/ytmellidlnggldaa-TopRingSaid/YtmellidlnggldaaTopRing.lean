/- TopRing: what is read from a ring and from a queue is what was written, in order. -/
import Derived.Test.YtmellidlnggldaaTopRel
import Derived.Test.YtmellidlnggldaaPush
import Derived.Deep.DeepCutAuto
import Derived.BigQuiet
namespace Go.Proofs.Ytmellidlnggldaa.Ring
set_option linter.unusedVariables false
open Go.RowKit Go.Proofs.YtmellidlnggldaaW.PrintWords Go.Proofs.YtmellidlnggldaaW.PrintLast Go.Proofs.YtmellidlnggldaaW.PrintMore Go.Proofs.Ytmellidlnggldaa.Book Go.Proofs.Ytmellidlnggldaa.Oct Go.Proofs.Ytmellidlnggldaa.Pure
set_option linter.unusedSimpArgs false

/-- append of octets, at the operation. -/
theorem wpList_append_buf {w : World} {ops : Array Oper} {rest : List Oper} {o : Oper} {a : Act} {Q : Exit → Act → World → Prop} (hgd : o.guard = none) (s x : Operand)
    (ho : o.op = .call { callee := .builtin .append, args := #[s, x], argTypes := #[37, 37] }) {B : Nat} {v : Value} {xs : List Int} (hs : a.eval s = v) (h : Buf w B v xs) (hB : B ≤ w.heap.size) (ad : Addr) (n c : Nat) (os : List Int) (hx : a.eval x = .slice (some ad) n c) (hn : os.length = n)
    (hr : ∀ j u, (lits8 os)[j]? = some u → w.cell? (ad.add j) = some u) (hl : xs.length + os.length ≤ 1000000)
    (hk : ∀ v' w', Buf w' B v' (xs ++ os) → Upd (fun j => some j = v.ownBlock) w w' → (∀ j, some j = v'.ownBlock → some j = v.ownBlock ∨ w.heap.size ≤ j) → wpList Try.prog ops Q rest (a.put o.dst v') w') : wpList Try.prog ops Q (o :: rest) a w := by
  refine wpList_plain hgd fun K hK => ?_
  subst hn
  obtain ⟨v', w', hrun, h1, h2, h3⟩ := run_append_buf h hB o.type ad c os hr hl
  unfold Oper.wp execOp
  simp only [ho, resolve, invoke, builtin, Sem.run_bind, Sem.run_pure, Result.andThen_ok, List.map_toArray, List.map_cons, List.map_nil, hs, hx, hrun]
  exact hK _ _ (hk v' w' h1 h2 h3)

/-- A string of octets that are read. -/
theorem str_of {w : World} {A : Option Addr} {n c : Nat} {xs : List Int} (h : ReadsInt w .u8 A n xs) : (convert 37 9 (.slice A n c)).run Try.prog w = .ok (.string (strOfNums xs)) w := by
  rw [run_convert_bytes_string w 37 9 5 A n c Try.underlying37 Try.underlying5 Try.underlying9]
  have hl := h.1
  have key : ∀ ad, A = some ad → (loadCells ad n).run Try.prog w = .ok (xs.map (Value.int .u8)).toArray w → (Conv.bytesToString (.slice A n c)).run Try.prog w = .ok (.string (strOfNums xs)) w := fun ad e hld => by
    rw [e, run_bytesToString w ad n c xs hld, foldl_push_bytes]
    simp [strOfNums, ByteArray.empty, ByteArray.emptyWithCapacity]
    rfl
  by_cases h0 : n = 0
  · have hx : xs = [] := List.eq_nil_of_length_eq_zero (by omega)
    cases hA : A with
    | none => rw [hx]; simp [Conv.bytesToString]; rfl
    | some ad =>
      rw [← hA]
      refine key ad hA ?_
      rw [h0, hx]
      have := run_loadCells_list (P := Try.prog) w ad [] (fun j v hj => by simp at hj)
      simpa using this
  · obtain ⟨ad, e, hc⟩ := h.2.2 (by omega)
    refine key ad e ?_
    have := run_loadCells_list (P := Try.prog) w ad (xs.map (Value.int .u8)) (fun j v hj => by
      have hjl := (List.getElem?_eq_some_iff.1 hj).1
      rw [List.length_map] at hjl
      rw [hc j (by omega), ← hj]
      simp [List.getElem?_eq_getElem hjl, List.getD])
    simpa [hl] using this

theorem apart_start (qa : Nat) : Apart (Owns none qa (.slice none 0 0) [] (.slice none 0 0) (.slice none 0 0) none) := by
  have one : ∀ a j, Owns none qa (.slice none 0 0) [] (.slice none 0 0) (.slice none 0 0) none a j → a = 1 := fun a j h => by
    match a, h with
    | 0, h => cases h
    | 1, _ => rfl
    | 2, h => cases h
    | 3, h => cases h
    | 4, h => cases h
  exact fun a b j ha hb => (one a j ha).trans (one b j hb).symm
theorem top_start {w w4 : World} {r p qa : Nat} {k s m size : Int} {q : Parts} (hR : RingAt w4 r p 1 k s m none 0 0 [] []) (hQ : QueueAt w4 qa p 1 k s m size (.slice none 0 0) []) (hB : BookAt w4 p bk0 q) (hb : Below w.heap.size w w4) (h1 : w.heap.size ≤ r) (h2 : w.heap.size ≤ qa) (h3 : ∀ j, q.Foot p j → w.heap.size ≤ j) :
    TopRel w w4 r p qa k s m size none 0 0 [] [] (.slice none 0 0) [] bk0 q (.slice none 0 0) [] (.slice none 0 0) [] none [] := by
  refine ⟨hR, hQ, hB, ⟨rfl, rfl, rfl⟩, by simp [qroom], Buf.nil _ _, Buf.nil _ _, fun g e => (by cases e), hb, ?_, apart_start qa⟩
  rintro j (e | e | e | e)
  · rw [e]; exact h1
  · cases e
  · rcases e with e | e | e
    · rw [e]; exact h2
    · cases e
    · simp at e
  · exact h3 j e

theorem strOfNums_app (X1 X2 : List Int) : strOfNums (X1 ++ X2) = strOfNums X1 ++ strOfNums X2 := by
  apply ByteArray.ext
  rw [ByteArray.data_append]
  simp [strOfNums]
/-- The two parts of a ring, as they are read. -/
theorem part_strings {w : World} {r p : Nat} {o k s m : Int} {MA : Option Addr} {c start : Nat} {ys xs : List Int} (h : RingAt w r p o k s m MA c start ys xs) : ∀ A1 : Option Addr, (0 < min (start + xs.length) c - start → A1 = MA.map (·.add start)) →
    ∃ X1 X2, ReadsInt w .u8 A1 (min (start + xs.length) c - start) X1 ∧ ReadsInt w .u8 MA (xs.length - (min (start + xs.length) c - start)) X2 ∧ X1 ++ X2 = xs := fun A1 hA => by
  have hs := h.shows
  have hf := h.full
  have hfit := h.fits
  have hst : start ≤ c := by rcases h.starts with h | h <;> omega
  unfold ringTake at hs
  rw [hf] at hs
  refine ⟨_, _, ?_, h.reads.take_ _ (by omega), hs⟩
  by_cases h0 : 0 < min (start + xs.length) c - start
  · rw [hA h0]
    exact (dropR h.reads hst (Nat.le_refl c) (fun _ => rfl)).take_ _ (by omega)
  · have e0 : min (start + xs.length) c - start = 0 := by omega
    rw [e0]; exact reads_nothing _ _ _

theorem below_boxed {w W : World} {o : Obj} (h : Below (w.alloc o).heap.size (w.alloc o) W) : Below w.heap.size w W := below_then (below_alloc (Below.refl _ _) _) (by simp) h

set_option maxHeartbeats 40000000 in
set_option maxRecDepth 100000 in
theorem topRing (k s m size : Int) (MO : Option Addr) (mc : Nat) (T : List Int) (w : World) (hT : ReadsInt w .i64 MO T.length T) (hml : T.length ≤ 9223372036854775807) :
    Calls Try.prog 3 #[.agg #[.int .i64 k, .int .i64 s, .int .i64 m], .int .i64 size, .slice MO T.length mc] w fun e w' => e = .returned (.bool true) ∧ Below w.heap.size w w' := by
  have HS : Hid (checkS 1 [10000000] = 0) := Lib.hid (by decide)
  have hsz0 : (w.alloc (.cells #[.int .i64 k, .int .i64 s, .int .i64 m] 23)).heap.size = w.heap.size + 1 := alloc_size _ _
  have HZ := Lib.hid hsz0
  have HT := Aside0.mk hT
  obtain ⟨N, hN⟩ : ∃ N, N = T.length := ⟨_, rfl⟩
  have HN := Lib.hid hN
  rw [← hN] at hml HT ⊢
  clear hsz0 hT hN
  go_enter Try.func3, Try.ntmps3
  go_wp2_with fail
  refine (awakeLedger _).mono ?_
  rintro e w' ⟨rfl, rfl⟩
  go_wp2_with fail
  refine (newBook 10000000 _ (by decide)).mono ?_
  rintro e w1 ⟨rfl, hB, hb⟩
  have Hb := Aside0.mk hb
  rw [HZ.out] at hB ⊢
  have HB := Aside0.mk hB
  clear hB hb
  go_wp2_with fail
  refine (open_ok HB.out 1 10000000 HS.out rfl (by decide)).mono ?_
  rintro e w2 ⟨rfl, q, hB2, hk, hf⟩
  have HO := Aside0.mk (opened HZ.out Hb.out hk hf)
  have HB2 := Aside0.mk (show BookAt w2 (w.heap.size + 1 + 1) bk0 q from hB2)
  obtain ⟨hx0, hx1, hx2⟩ := box_cells (box_later HO.out.1)
  have HBX := Aside0.mk (box_later HO.out.1)
  clear hB2 hk hf
  go_wp2_with fail
  refine (newRing HB2.out 1 k s m).mono ?_
  rintro e w3 ⟨hn, hb3⟩
  have HB3 := Aside0.mk (below_then HO.out.1 HO.out.1.size hb3)
  have HBk3 := Aside0.mk (HB2.out.frame (fun j hj => hb3.block j (HB2.out.lt hj)))
  obtain ⟨hy0, hy1, hy2⟩ := box_cells (box_later HB3.out)
  clear hb3 hx0 hx1 hx2
  rcases hn with ⟨err, he, rfl⟩ | ⟨r, rfl, hr, hR⟩
  · have hne : (err != 0) = true := by simp [he]
    clear HBX
    go_wp2_with fail
    refine (newQueue HBk3.out 1 k s m size).mono ?_
    rintro e w4 ⟨hn, hb4⟩
    have HB4 := Aside0.mk (below_then HB3.out HB3.out.size hb4)
    clear hb4
    rcases hn with ⟨err2, he2, rfl⟩ | ⟨qa, rfl, _⟩
    · go_wp2_with fail
      go_ret
      exact ⟨rfl, below_boxed HB4.out⟩
    · go_wp2_with fail
      go_ret
      exact ⟨rfl, below_boxed HB4.out⟩
  · have HR := Aside0.mk hR
    have hry : w.heap.size ≤ r := by have := HO.out.1.size; have := HZ.out; omega
    clear hR hr HBX
    go_wp2_with fail
    refine (newQueue HBk3.out 1 k s m size).mono ?_
    rintro e w4 ⟨hn, hb4⟩
    have HB4 := Aside0.mk (below_then HB3.out HB3.out.size hb4)
    have HR4 := Aside0.mk (HR.out.below hb4)
    have HBk4 := Aside0.mk (HBk3.out.frame (fun j hj => hb4.block j (HBk3.out.lt hj)))
    clear hb4
    rcases hn with ⟨err2, he2, rfl⟩ | ⟨qa, rfl, hqy, hQ, hpol, hs1, hs2, hs3⟩
    · have hne : (err2 != 0) = true := by simp [he2]
      go_wp2_with fail
      go_ret
      exact ⟨rfl, below_boxed HB4.out⟩
    · have HQ := Aside0.mk hQ
      have hsz := HB3.out.size
      have hrel : TopRel w w4 r (w.heap.size + 1 + 1) qa k s m size none 0 0 [] [] (.slice none 0 0) [] bk0 q (.slice none 0 0) [] (.slice none 0 0) [] none [] :=
        top_start HR4.out hQ HBk4.out (below_boxed HB4.out) hry (by have := HZ.out; omega) (fun j e => by have := HO.out.2 j e; have := HZ.out; omega)
      have HREL := Aside0.mk hrel
      have hsize : 1 ≤ size ∧ size ≤ 100000 := ⟨hs1, hs3⟩
      clear hrel hQ HQ HR4 HBk4 HB4 HR HBk3 HB3 HO HB2 HB Hb HS hs1 hs2 hs3 hqy hsz hy0 hy1 hy2 hry
      go_wp2_with fail
      go_loopw [13, 14, 15, 17, 18, 19, 20, 21, 22, 23, 24, 25, 26, 27, 28, 29, 30, 31, 32, 33, 68] (fun s13 s14 s15 _ _ _ _ _ _ _ _ _ _ _ _ _ _ _ _ _ i (wr : World) => ∃ (n : Nat) (MA : Option Addr) (c start : Nat) (ys xs : List Int) (qv : Value) (cs : List Chk) (b : BookS) (q : Parts) (nx : Int), n ≤ N ∧ i = .int .i64 n ∧ s15 = .int .u8 nx ∧ Aside0 (TopRel w wr r (w.heap.size + 1 + 1) qa k s m size MA c start ys xs qv cs b q s13 xs s14 (qout cs) none [])) (fun _ _ _ _ _ _ _ _ _ _ _ _ _ _ _ _ _ _ _ _ i _ => N - (intOf i).toNat)
      case atStart => exact ⟨0, none, 0, 0, [], [], .slice none 0 0, [], bk0, q, 1, Nat.zero_le _, rfl, rfl, HREL⟩
      case round =>
        obtain ⟨n, MA, c, start, ys, xs, qv, cs, b, q, nx, hn, rfl, rfl, HE⟩ := hrel
        clear HREL
        by_cases hlt : n < N
        · obtain ⟨ad, rfl, hc⟩ := (HT.out.below HE.out.below).at_ n (by omega) (by omega)
          rw [Int.toNat_natCast] at hc
          generalize rd T n = x at hc
          obtain ⟨A13, c13, rfl, hc13, _⟩ := HE.out.inR.shape
          obtain ⟨A14, c14, rfl, hc14, _⟩ := HE.out.inQ.shape
          obtain ⟨bA, hbA⟩ : ∃ bA, bA = decide (0 ≤ x ∧ x ≤ 200) := ⟨_, rfl⟩
          go_upto_region 15 with fail
          go_cut [77] (fun s77 wx => s77 = .bool bA ∧ wx = wr)
          case first =>
            --[[
            as_aux_lemma =>
              by_cases h0 : 0 ≤ x
              · have hd0 : decide (x ≥ 0) = true := decide_eq_true h0
                have hb2 : decide (x ≤ 200) = bA := by rw [hbA]; simp [h0]
                clear hbA h0
                go_wp2_with fail
                go_meet
                exact ⟨rfl, rfl⟩
              · have hd0 : decide (x ≥ 0) = false := decide_eq_false h0
                have hb2 : bA = false := by rw [hbA]; simp [h0]
                subst hb2
                clear hbA h0
                go_wp2_with fail
                go_meet
                exact ⟨rfl, rfl⟩
            --]]
          case rest =>
          obtain ⟨rfl, rfl⟩ := hcut
          have hc' : wc.cell? (ad.add n) = some (.int .i64 x) := hc
          go_upto_if 77 with (fail)
          go_cut [13, 14, 15] (fun s13 s14 s15 wx => ∃ (MA : Option Addr) (c start : Nat) (ys xs : List Int) (qv : Value) (cs : List Chk) (b : BookS) (q : Parts) (nx : Int), s15 = .int .u8 nx ∧ Aside0 (TopRel w wx r (w.heap.size + 1 + 1) qa k s m size MA c start ys xs qv cs b q s13 xs s14 (qout cs) none []))
          case first =>
            by_cases hb9 : bA = true
            ·
              --[[
              as_aux_lemma =>
                subst hb9
                obtain ⟨n0, rfl⟩ := Int.eq_ofNat_of_zero_le (show 0 ≤ x from (of_decide_eq_true hbA.symm).1)
                have hn0 : n0 ≤ 200 := by have := (of_decide_eq_true hbA.symm).2; omega
                have hmk := makeU8 n0 n0 (Nat.le_refl _) (by omega)
                have HM := Aside0.mk (HE.out.made (below_alloc (Below.refl _ _) (.cells (lits8 (List.replicate n0 0)).toArray 5)) (Nat.le_refl _) (blk_new _ _))
                clear hbA hc hc' HE
                generalize hg0 : wc.heap.size = og at *
                go_wp2_with fail
                generalize wc.alloc (.cells (lits8 (List.replicate n0 0)).toArray 5) = w5 at *
                go_loopw [15, 19, 82] (fun s15 _ i wx => ∃ (j : Nat) (nx : Int) (os : List Int), j ≤ n0 ∧ i = .int .i64 j ∧ s15 = .int .u8 nx ∧ Hid (os.length = n0) ∧ Aside0 (TopRel w wx r (w.heap.size + 1 + 1) qa k s m size MA c start ys xs qv cs b q (.slice A13 xs.length c13) xs (.slice A14 (qout cs).length c14) (qout cs) (some og) os)) (fun _ _ i _ => n0 - (intOf i).toNat)
                case atStart => exact ⟨0, nx, List.replicate n0 0, Nat.zero_le _, rfl, rfl, Lib.hid (by simp), HM⟩
                case round =>
                  obtain ⟨j, nx, os, hj, rfl, rfl, HLn, HI⟩ := hrel
                  clear HM
                  by_cases hlt2 : j < n0
                  · have hrow := (HI.out.oct og rfl).1
                    have hcl := hrow.cell j (by rw [HLn.out]; exact hlt2)
                    have hfz := hrow.frozen j
                    clear hrow
                    go_wp2_with fail
                    go_round
                    case rel => exact ⟨j + 1, _, os.set j nx, by omega, by go_num, rfl, Lib.hid (by rw [List.length_set]; exact HLn.out), ⟨HI.out.poke j nx⟩⟩
                    case measure => simp [intOf]; omega
                  · obtain rfl : j = n0 := by omega
                    have hl9 : os.length ≤ 1000000 := by rw [HLn.out]; omega
                    obtain ⟨hrd, hcs⟩ := HI.out.octs hl9
                    have hWr := write HI.out.ring HI.out.book HI.out.ok (some ⟨og, 0, none⟩) j os hrd (by omega) (fun e => by cases e)
                    rw [HLn.out] at hWr
                    have HWr := Aside0.mk hWr
                    have hlx : xs.length ≤ 100000 := Nat.le_trans HI.out.ring.fits HI.out.ring.small
                    have HLX := Lib.hid hlx
                    have HHL := Lib.hid hl9
                    clear hWr hrd hcs hl9 hlx hlt2
                    go_wp2_with fail
                    refine HWr.out.mono ?_
                    rintro e w6 ⟨mv, err, MA2, c2, st2, ys2, b2, q2, rfl, hW⟩
                    have H2 := Aside0.mk (HI.out.wrote hW)
                    clear hW HWr
                    obtain ⟨xs2, hx2⟩ : ∃ xs2, xs2 = if err = 0 then xs ++ os else xs := ⟨_, rfl⟩
                    rw [← hx2] at H2
                    have HX2 := Lib.hid hx2
                    obtain ⟨bE, hbE⟩ : ∃ bE, (err == 0) = bE := ⟨_, rfl⟩
                    have HBE := Lib.hid hbE
                    clear hx2
                    go_upto_if 99 with (fail)
                    go_cut [13] (fun s13 wx => Aside0 (TopRel w wx r (w.heap.size + 1 + 1) qa k s m size MA2 c2 st2 ys2 xs2 qv cs b2 q2 s13 xs2 (.slice A14 (qout cs).length c14) (qout cs) (some og) os))
                    case first =>
                      as_aux_lemma =>
                        by_cases he : err = 0
                        · have hbt : bE = true := by rw [← HBE.out, he]; rfl
                          have hxe : xs2 = xs ++ os := by rw [HX2.out, if_pos he]
                          have HXE := Lib.hid hxe
                          subst hbt
                          clear hxe he hbE
                          go_wp2_with (first | (at_builtin; refine wpList_append_buf rfl (.tmp 100) (.tmp 101) rfl rfl H2.out.inR H2.out.below.size ⟨og, 0, none⟩ j j os rfl HLn.out (H2.out.octs HHL.out).2 (by have := HLX.out; have := HLn.out; omega) ?_; intro v7 w7 h1 h2 h3; have H7 := Aside0.mk (H2.out.grewR h1 h2 h3); clear h1 h2 h3))
                          go_meet
                          exact ⟨by have h9 := H7.out; rw [← HXE.out] at h9; exact h9⟩
                        · have hbt : bE = false := by rw [← HBE.out]; simp [he]
                          have hxe : xs2 = xs := by rw [HX2.out, if_neg he]
                          have HXE := Lib.hid hxe
                          subst hbt
                          clear hxe he hbE
                          go_wp2_with fail
                          go_meet
                          exact ⟨by have h9 := H2.out; rw [HXE.out] at h9 ⊢; exact h9⟩
                    case rest =>
                      have H3 := hcut
                      have hRd := (H3.out.octs HHL.out).1
                      have hPs := push H3.out.queue H3.out.book H3.out.ok hsize (some ⟨og, 0, none⟩) j os hRd (fun e => by cases e) (by have := HHL.out; omega) (fun ad e => by obtain rfl := Option.some.inj e; exact row_foot H3.out.book (H3.out.oct og rfl).1)
                      rw [HLn.out] at hPs
                      have HPs := Aside0.mk hPs
                      have hlq : (qout cs).length ≤ 100000 := H3.out.queue.len
                      have HLQ := Lib.hid hlq
                      clear hRd hPs hlq H2 hbE
                      generalize wc = w8 at *
                      go_wp2_with fail
                      refine HPs.out.mono ?_
                      rintro e w9 ⟨err2, qv2, ks, b3, q3, rfl, hP⟩
                      have H4 := Aside0.mk (H3.out.pushed hP)
                      have HSH := Lib.hid hP.shows
                      obtain ⟨bF, hbF⟩ : ∃ bF, (err2 == 0) = bF := ⟨_, rfl⟩
                      have HBF := Lib.hid hbF
                      clear hP HPs H3
                      go_upto_if 107 with (fail)
                      go_cut [14] (fun s14 wx => Aside0 (TopRel w wx r (w.heap.size + 1 + 1) qa k s m size MA2 c2 st2 ys2 xs2 qv2 ks b3 q3 u13 xs2 s14 (qout ks) (some og) os))
                      case first =>
                        as_aux_lemma =>
                          by_cases he : err2 = 0
                          · have hbt : bF = true := by rw [← HBF.out, he]; rfl
                            have hxe : qout ks = qout cs ++ os := by rw [HSH.out, if_pos he]
                            have HXE := Lib.hid hxe
                            subst hbt
                            clear hxe he hbF
                            go_wp2_with (first | (at_builtin; refine wpList_append_buf rfl (.tmp 108) (.tmp 109) rfl rfl H4.out.inQ H4.out.below.size ⟨og, 0, none⟩ j j os rfl HLn.out (H4.out.octs HHL.out).2 (by have := HLQ.out; have := HLn.out; omega) ?_; intro v7 w7 h1 h2 h3; have H7 := Aside0.mk (H4.out.grewQ h1 h2 h3); clear h1 h2 h3))
                            go_meet
                            exact ⟨by have h9 := H7.out; rw [← HXE.out] at h9; exact h9⟩
                          · have hbt : bF = false := by rw [← HBF.out]; simp [he]
                            have hxe : qout ks = qout cs := by rw [HSH.out, if_neg he]
                            have HXE := Lib.hid hxe
                            subst hbt
                            clear hxe he hbF
                            go_wp2_with fail
                            go_meet
                            exact ⟨by have h9 := H4.out; rw [HXE.out]; exact h9⟩
                      case rest =>
                        go_wp2_with fail
                        go_meet
                        exact ⟨MA2, c2, st2, ys2, xs2, qv2, ks, b3, q3, _, rfl, ⟨hcut.out.forget⟩⟩
              --]]
            ·
              --[[
              as_aux_lemma =>
                obtain rfl : bA = false := by simpa using hb9
                by_cases h1 : x < 0
                · by_cases h2 : -200 ≤ x
                  · have hd1 : decide (x < 0) = true := decide_eq_true h1
                    have hd2 : decide (x ≥ -200) = true := decide_eq_true h2
                    obtain ⟨d, hxd⟩ : ∃ d : Nat, -x = (d : Int) := ⟨(-x).toNat, by omega⟩
                    obtain ⟨L1, hL1⟩ : ∃ L1, L1 = xs.length := ⟨_, rfl⟩
                    obtain ⟨L2, hL2⟩ : ∃ L2, L2 = (qout cs).length := ⟨_, rfl⟩
                    obtain ⟨kk, hkk⟩ : ∃ kk, kk = min d L1 := ⟨_, rfl⟩
                    obtain ⟨mm, hmm⟩ : ∃ mm, mm = min d L2 := ⟨_, rfl⟩
                    have hkL : kk ≤ L1 := by omega
                    have hmL : mm ≤ L2 := by omega
                    have m1 : (if d < L1 then (d : Int) else (L1 : Int)) = (kk : Int) := by split <;> omega
                    have m2 : (if L1 < d then (L1 : Int) else (d : Int)) = (kk : Int) := by split <;> omega
                    have m3 : (if d < L2 then (d : Int) else (L2 : Int)) = (mm : Int) := by split <;> omega
                    have m4 : (if L2 < d then (L2 : Int) else (d : Int)) = (mm : Int) := by split <;> omega
                    have HL1 := Lib.hid hL1
                    have HL2 := Lib.hid hL2
                    rw [← hL1] at HE hc13 ⊢
                    rw [← hL2] at HE hc14 ⊢
                    have hRd := read HE.out.ring kk (by rw [← hL1]; exact hkL)
                    have HRd := Aside0.mk hRd
                    clear hRd hbA hc hc' hb9 hL1 hL2 hkk hmm
                    go_wp2_with fail
                    refine HRd.out.mono ?_
                    rintro e w6 ⟨B1, cp1, rfl, hc1, hr1, hy1, hR6, hu6⟩
                    have H2 := Aside0.mk (HE.out.read hR6 hu6)
                    have hP := pull H2.out.queue H2.out.book H2.out.ok ⟨by omega, by omega⟩ _ H2.out.one.acc (by show (qroom cs : Int) ≤ (c : Int) + (qroom cs : Int); omega) mm (by rw [← HL2.out]; exact hmL)
                    have HP := Aside0.mk hP
                    have HR1 := Aside0.mk hr1
                    have HY1 : Aside0 (∀ ad, B1 = some ad → ¬ (QFoot qa qv cs ad.block ∨ q.Foot (w.heap.size + 1 + 1) ad.block)) := ⟨fun ad e hf => by
                      have h9 := hy1 ad e
                      rcases hf with hf | hf
                      · have := HE.out.queue.lt hf; omega
                      · have := HE.out.book.lt hf; omega⟩
                    clear hR6 hu6 hP hr1 hy1 HRd
                    go_wp2_with fail
                    refine HP.out.mono ?_
                    rintro e w7 ⟨B2, cp2, rfl, hc2, hr2, qv2, ks, b2, q2, hPl⟩
                    have H3 := Aside0.mk (H2.out.pulled hPl)
                    have HR1b := Aside0.mk (reads_upd HR1.out hPl.upd (fun ad e _ => HY1.out ad e))
                    have HR2 := Aside0.mk hr2
                    have HSH := Lib.hid hPl.shows
                    obtain ⟨_, cA, e1, _, hrA⟩ := H3.out.inR.shape
                    rw [← HL1.out] at e1 hrA
                    obtain ⟨rfl, -, rfl⟩ : A13 = _ ∧ L1 = L1 ∧ c13 = cA := by simpa using e1
                    obtain ⟨_, cB, e2, _, hrB⟩ := H3.out.inQ.shape
                    rw [← HL2.out] at e2 hrB
                    obtain ⟨rfl, -, rfl⟩ : A14 = _ ∧ L2 = L2 ∧ c14 = cB := by simpa using e2
                    have cv1 := fun mq => str_of (c := cp1) (HR1b.out.drewN mq)
                    have cv2 := fun mq => str_of (c := c13) ((hrA.take_ kk hkL).drewN mq)
                    have cv3 := fun mq => str_of (c := cp2) (hr2.drewN mq)
                    have cv4 := fun mq => str_of (c := c14) ((hrB.take_ mm hmL).drewN mq)
                    have sl1 := sub_to A13 L1 c13 kk ↑kk rfl hkL hc13
                    have sl2 := sub_to A14 L2 c14 mm ↑mm rfl hmL hc14
                    clear hPl HP hr2 e1 e2 hrA hrB H2 HR1 HY1 HE
                    generalize strOfNums (xs.take kk) = t1 at cv1 cv2
                    generalize strOfNums ((qout cs).take mm) = t2 at cv3 cv4
                    go_wp2_with fail
                    go_cut [162] (fun z9 wx => z9 = .bool false ∧ ∃ n9, wx = w7.drewN n9)
                    case first =>
                      as_aux_lemma =>
                        go_quiet ((fail))
                        go_wp2_with fail
                        go_meet
                        exact ⟨rfl, _, rfl⟩
                    case rest =>
                      obtain ⟨rfl, n9, rfl⟩ := hcut
                      obtain ⟨v13, hf1, hb1, ho1⟩ := H3.out.inR.from kk (by rw [← HL1.out]; exact hkL)
                      obtain ⟨v14, hf2, hb2, ho2⟩ := H3.out.inQ.from mm (by rw [← HL2.out]; exact hmL)
                      have H4 := Aside0.mk (H3.out.cut hb1 ho1 hb2 ho2)
                      obtain ⟨A15, c15, rfl, _, _⟩ := hb1.shape
                      obtain ⟨A16, c16, rfl, _, _⟩ := hb2.shape
                      clear hb1 ho1 hb2 ho2 cv1 cv2 cv3 cv4 sl1 sl2 H3
                      generalize (xs.drop kk).length = L3 at *
                      generalize ((qout cs).drop mm).length = L4 at *
                      have HL9 := Aside0.mk (H4.out.later (below_drew (pw_below_drewN (Below.refl w7.heap.size w7) n9)))
                      rw [← HSH.out] at HL9
                      clear H4
                      go_wp2_with fail
                      go_region
                      all_goals
                        go_wp2_with fail
                        go_meet
                        exact ⟨MA, c, cellS c start kk, ys, xs.drop kk, qv2, ks, b2, q2, nx, rfl, HL9⟩
                  · have hd1 : decide (x < 0) = true := decide_eq_true h1
                    have hd2 : decide (x ≥ -200) = false := decide_eq_false (by omega)
                    clear hbA hc hc' hb9
                    go_wp2_with fail
                    go_meet
                    exact ⟨MA, c, start, ys, xs, qv, cs, b, q, nx, rfl, HE⟩
                · have hd1 : decide (x < 0) = false := decide_eq_false h1
                  clear hbA hc hc' hb9
                  go_wp2_with fail
                  go_meet
                  exact ⟨MA, c, start, ys, xs, qv, cs, b, q, nx, rfl, HE⟩
              --]]
          case rest =>
            clear HE
            obtain ⟨MA, c, start, ys, xs, qv, cs, b, q, nx, rfl, HE⟩ := hcut
            obtain ⟨A5, c5, rfl, h5, hr5⟩ := HE.out.inR.shape
            obtain ⟨A6, c6, rfl, h6, _⟩ := HE.out.inQ.shape
            have HR5 := Aside0.mk hr5
            have HPt := Aside0.mk (parts HE.out.ring)
            have hfull := HE.out.full
            have HFX := Lib.hid (part_strings HE.out.ring)
            obtain ⟨d1, hd1⟩ : ∃ d1, d1 = min (start + xs.length) c - start := ⟨_, rfl⟩
            rw [← hd1] at HPt HFX
            obtain ⟨d2, hd2⟩ : ∃ d2, d2 = xs.length - d1 := ⟨_, rfl⟩
            rw [← hd2] at HPt HFX
            clear hr5 hc hc' hbA hd2
            generalize wc = w5 at *
            go_wp2_with fail
            refine HPt.out.mono ?_
            rintro e w6 ⟨A1, rfl, hA1, m6, rfl⟩
            obtain ⟨X1, X2, hx1, hx2, hxx⟩ := HFX.out A1 (fun h => hA1 (by omega))
            have cv1 := str_of (c := d1) (hx1.drewN m6)
            have cv2 := str_of (c := d2) (hx2.drewN m6)
            have cv3 := str_of (c := c5) (HR5.out.drewN m6)
            have HE5 := Aside0.mk (HE.out.later (pw_below_drewN (Below.refl _ _) m6))
            have hst : strOfNums X1 ++ strOfNums X2 = strOfNums xs := by rw [← hxx]; exact (strOfNums_app X1 X2).symm
            have hts : ¬ 9223372036854775807 < (strOfNums X1).size + (strOfNums X2).size := by
              rw [strOfNums_size, strOfNums_size]
              have e9 : X1.length + X2.length = xs.length := by rw [← hxx, List.length_append]
              have := HE5.out.ring.fits
              have := HE5.out.ring.small
              omega
            have hhd := held HE5.out.book 1
            rw [HE5.out.one.held] at hhd
            have HH := Aside0.mk hhd
            clear hx1 hx2 hxx hA1 hd1 HPt hhd HE HR5
            generalize strOfNums X1 = t1 at *
            generalize strOfNums X2 = t2 at *
            generalize strOfNums xs = t3 at *
            generalize w5.drewN m6 = w7 at *
            obtain ⟨L1, hL1⟩ : ∃ L1, L1 = xs.length := ⟨_, rfl⟩
            obtain ⟨L2, hL2⟩ : ∃ L2, L2 = (qout cs).length := ⟨_, rfl⟩
            obtain ⟨Q2, hQ2⟩ : ∃ Q2, Q2 = qroom cs := ⟨_, rfl⟩
            have HLh := Aside0.mk (lenOfRing r _ 1 k s m false _ _ _ w7 HE5.out.ring.head)
            have HQl := Aside0.mk (qlen HE5.out.queue)
            rw [← hL1] at HLh cv3 ⊢
            rw [← hL2] at HQl ⊢
            have hcq : (c : Int) + (qroom cs : Int) = (c : Int) + (Q2 : Int) := by rw [hQ2]
            rw [hcq] at HH
            have hf2 : c + Q2 ≤ 10000000 := by rw [hQ2]; exact hfull
            have HQ2 := Lib.hid hQ2
            have HL1 := Lib.hid hL1
            have HL2 := Lib.hid hL2
            clear hfull hcq hQ2 hL1 hL2
            go_wp2_with (first | (go_at_call 14; refine HH.out.mono ?_; rintro e w8 ⟨rfl, rfl⟩) | (go_at_call 15; refine HLh.out.mono ?_; rintro e w8 ⟨rfl, rfl⟩) | (go_at_call 16; refine HQl.out.mono ?_; rintro e w8 ⟨rfl, hb8⟩; have HE8 := Aside0.mk (HE5.out.later hb8); clear hb8) | (go_at_call 17; refine (roomOf r _ 1 k s m false _ c _ _ _ HE8.out.ring.head).mono ?_; rintro e w9 ⟨rfl, rfl⟩) | (go_at_call 18; refine (qroomOf HE8.out.queue).mono ?_; rintro e w10 ⟨rfl, hb10⟩; rw [← HQ2.out]; have HE10 := Aside0.mk (HE8.out.later hb10); clear hb10))
            go_round
            case rel => exact ⟨n + 1, MA, c, start, ys, xs, qv, cs, b, q, nx, by omega, by go_num, rfl, ⟨by have h9 := HE10.out; rw [← HL1.out, ← HL2.out] at h9; exact h9⟩⟩
            case measure => simp [intOf]; omega
        · obtain rfl : n = N := by omega
          go_wp2_with fail
          go_ret
          exact ⟨rfl, HE.out.below⟩

theorem topRing_row (k s m size : Int) (a2 : Option Addr) (len2 cap2 : Nat) (zs2 : List Int) (w : World) (_ : (Lit.int .i64 k).wf = true) (_ : (Lit.int .i64 s).wf = true) (_ : (Lit.int .i64 m).wf = true) (_ : (Lit.int .i64 size).wf = true)
    (hrow : (a2 = none ∧ len2 = 0 ∧ cap2 = 0 ∧ zs2 = []) ∨
    ∃ x, a2 = some x ∧ len2 ≤ cap2 ∧ cap2 ≤ maxLen ∧ zs2.length = cap2 ∧ (∀ i, i < zs2.length → w.cell? (x.add i) = some (.int .i64 (zs2.getD i 0))) ∧ ∀ n ∈ zs2, (Lit.int .i64 n).wf = true) (y2 : len2 * 8 ≤ 140737488351232) :
    Calls Try.prog 3 #[.agg #[.int .i64 k, .int .i64 s, .int .i64 m], .int .i64 size, .slice a2 len2 cap2] w fun e w' => e = .returned (.bool true) ∧ Below w.heap.size w w' := by
  obtain ⟨xs, rfl, hr, _, _, _⟩ := ReadsInt.ofRowC hrow
  exact topRing k s m size a2 cap2 xs w hr (by omega)
end Go.Proofs.Ytmellidlnggldaa.Ring
