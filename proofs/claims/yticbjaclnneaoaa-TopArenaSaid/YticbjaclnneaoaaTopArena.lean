/- TopArena: regions that live have no octet in common; a release leaves what was there at the mark; octets that are written stay. -/
import Derived.Test.YticbjaclnneaoaaArInv
import Derived.Test.YticbjaclnneaoaaArTake
import Derived.Test.YticbjaclnneaoaaArApart
import Derived.Deep.DeepCutAuto
import Derived.BigQuiet
namespace Go.Proofs.Yticbjaclnneaoaa.Arena
set_option linter.unusedVariables false
open Go.RowKit Go.Proofs.YticbjaclnneaoaaW.PrintWords Go.Proofs.YticbjaclnneaoaaW.PrintLast Go.Proofs.YticbjaclnneaoaaW.PrintMore Go.Proofs.Yticbjaclnneaoaa.Book Go.Proofs.Yticbjaclnneaoaa.Oct Go.Proofs.Yticbjaclnneaoaa.Pure Go.Proofs.Yticbjaclnneaoaa.MapInt
set_option linter.unusedSimpArgs false

theorem below_boxed {w W : World} {o : Obj} (h : Below (w.alloc o).heap.size (w.alloc o) W) : Below w.heap.size w W := below_then (below_alloc (Below.refl _ _) _) (by simp) h
/-- A list of pairs that reads. -/
def Pairs (w : World) (EA : Option Addr) (E : Nat) (t : Nat → Int × Int) : Prop := 0 < E → ∃ b o, EA = some ⟨b, o, none⟩ ∧ b < w.heap.size ∧ ∀ k, k < E → w.cell? ⟨b, o + k * 2, none⟩ = some (.int .i64 (t k).1) ∧ w.cell? ⟨b, o + k * 2 + 1, none⟩ = some (.int .i64 (t k).2)
theorem core_start {w w4 : World} {r p : Nat} {k s m size : Int} {q : Parts} (hA : ArenaAt w4 r p 1 k s m size S0) (hB : BookAt w4 p bk0 q) (hb : Below w.heap.size w w4) (h1 : w.heap.size ≤ r) (h3 : ∀ j, q.Foot p j → w.heap.size ≤ j) :
    Core (w4.alloc (.map #[] 0)) w.heap.size r p k s m size w4.heap.size 0 S0 bk0 q [] (.slice none 0 0) [] ∧ Pure_ S0 [] [] := by
  have hb4 : Below w4.heap.size w4 (w4.alloc (.map #[] 0)) := below_alloc (Below.refl _ _) _
  refine ⟨⟨hA.below hb4, hB_below hB hb4, ⟨rfl, rfl, rfl⟩, S0_good, IntMap.made _, ?_, h3, hb.size, fun hj => ?_, Nat.le_refl _, Nat.le_refl _, ⟨⟨rfl, .inl ⟨rfl, rfl⟩⟩, fun t ht => by simp at ht⟩⟩, ⟨by simp [Ord, S0], fun x hx => by simp [S0] at hx, fun x hx => by simp [S0] at hx, Says.nil _ _⟩⟩
  · rintro j (e | e | e | e | e)
    · rw [e]; exact h1
    · cases e
    · cases e
    · cases e
    · simp [S0] at e
  · have := hB.lt hj; omega

theorem four_src {W : World} {g : Nat} {a b c d : Value} {t : TypeId} (h : W.heap[g]? = some (.cells #[a, b, c, d] t)) : ∀ j u, ([a, b, c, d] : List Value)[j]? = some u → W.cell? ((⟨g, 0, none⟩ : Addr).add j) = some u := by
  intro j u hj
  rw [Oct.add_zero', blk_cell h j]
  simpa using hj
set_option maxHeartbeats 40000000 in
set_option maxRecDepth 100000 in
theorem topArena (k s m size : Int) (TA MA : Option Addr) (N tc M mc : Nat) (T : Nat → Int × Int) (ms : List Int) (w : World) (hT : Pairs w TA N T) (hM : ReadsInt w .i64 MA M ms) (hN : N ≤ 1000000000000000) (hMl : M ≤ 1000000000000000) :
    Calls Try.prog 3 #[.agg #[.int .i64 k, .int .i64 s, .int .i64 m], .int .i64 size, .slice TA N tc, .slice MA M mc] w fun e w' => e = .returned (.bool true) ∧ Below w.heap.size w w' := by
  have HS : Hid (checkS 1 [10000000] = 0) := Lib.hid (by decide)
  have hsz0 : (w.alloc (.cells #[.int .i64 k, .int .i64 s, .int .i64 m] 23)).heap.size = w.heap.size + 1 := alloc_size _ _
  have HZ := Lib.hid hsz0
  have HT := Aside0.mk hT
  have HM := Aside0.mk hM
  clear hsz0 hT hM
  go_enter Try.func3, Try.ntmps3
  go_wp2_with fail
  refine (awakeLedger _).mono ?_
  rintro e w' ⟨rfl, rfl⟩
  go_wp2_with fail
  refine (newBook 10000000 _ (by decide)).mono ?_
  rintro e w1 ⟨rfl, hB, hb⟩
  have Hb := Aside0.mk hb
  rw [HZ.out] at hB ⊢
  have HB := Aside0.mk hB
  clear hB hb
  go_wp2_with fail
  refine (open_ok HB.out 1 10000000 HS.out rfl (by decide)).mono ?_
  rintro e w2 ⟨rfl, q, hB2, hk, hf⟩
  have HO := Aside0.mk (opened HZ.out Hb.out hk hf)
  have HB2 := Aside0.mk (show BookAt w2 (w.heap.size + 1 + 1) bk0 q from hB2)
  obtain ⟨hx0, hx1, hx2⟩ := box_cells (box_later HO.out.1)
  clear hB2 hk hf
  go_wp2_with fail
  refine (newArena HB2.out 1 k s m size).mono ?_
  rintro e w4 ⟨hn, hb4⟩
  have HB4 := Aside0.mk (below_then HO.out.1 HO.out.1.size hb4)
  have HBk4 := Aside0.mk (HB2.out.frame (fun j hj => hb4.block j (HB2.out.lt hj)))
  clear hb4
  rcases hn with ⟨err2, he2, rfl⟩ | ⟨r, rfl, hry, hA, hpol, hs1, hs2, hs3⟩
  · have hne : (err2 != 0) = true := by simp [he2]
    go_wp2_with fail
    go_ret
    exact ⟨rfl, below_boxed HB4.out⟩
  · have hrel := core_start hA HBk4.out (below_boxed HB4.out) (by have := HO.out.1.size; have := HZ.out; omega) (fun j e => by have := HO.out.2 j e; have := HZ.out; omega)
    have HREL := Aside0.mk hrel
    have HBm := Aside0.mk (below_alloc (below_boxed HB4.out) (.map #[] 0))
    obtain ⟨sz, rfl⟩ : ∃ sz : Nat, size = sz := ⟨size.toNat, by omega⟩
    have hsz1 : sz ≤ 100000 := by omega
    have hmk : ∀ w : World, (Instr.makeMap 36 none).run Try.prog w = .ok (.map (some w.heap.size)) (w.alloc (.map #[] 0)) := fun w => by simp [Instr.makeMap, run_underlying Try.underlying36]
    clear hrel hA hpol hs1 hs2 hs3 hry hx0 hx1 hx2 HBk4 HB4 HO HB2 HB Hb HS
    go_wp2_with fail
    clear hmk
    generalize w4.heap.size = mb at *
    generalize w4.alloc (.map #[] 0) = w5 at *
    generalize w.heap.size + 1 + 1 = p at *
    go_loopw [12, 14, 15, 16, 17, 18, 19, 20, 21, 22, 23, 24, 25, 54] (fun s12 _ _ _ _ _ _ _ _ _ _ _ _ i (wr : World) => ∃ (n : Nat) (S : ArS) (b : BookS) (q : Parts) (l : List (Int × Value)) (st : List Thn), n ≤ N ∧ i = .int .i64 n ∧ Aside0 (Core wr w.heap.size r p k s m sz mb n S b q l s12 st) ∧ Aside0 (Pure_ S l st) ∧ Aside0 (Below w.heap.size w wr)) (fun _ _ _ _ _ _ _ _ _ _ _ _ _ i _ => N - (intOf i).toNat)
    case atStart => exact ⟨0, S0, bk0, q, [], [], Nat.zero_le _, rfl, ⟨HREL.out.1⟩, ⟨HREL.out.2⟩, HBm⟩
    case round =>
      obtain ⟨n, S, b, q, l, st, hn, rfl, HC, HP, HW⟩ := hrel
      by_cases hlt : n < N
      · obtain ⟨tb, tof, rfl, htb, hcells⟩ := HT.out (by omega)
        obtain ⟨t0, t1, ht⟩ : ∃ t0 t1, T n = (t0, t1) := ⟨_, _, rfl⟩
        have hc0 := (hcells n hlt).1
        have hc1 := (hcells n hlt).2
        rw [ht] at hc0 hc1
        have hBw : Below w.heap.size w wr := HW.out
        have hc0 := old_cell hc0 hBw
        have hc1 := old_cell hc1 hBw
        have HTb := Aside0.mk (And.intro htb hcells)
        have hsz := HW.out.size
        have HTp := Aside0.mk (blk_new wr (.cells #[.int .i64 t0, .int .i64 t1] 37))
        have hWt : Below wr.heap.size wr (wr.alloc (.cells #[.int .i64 t0, .int .i64 t1] 37)) := below_alloc (Below.refl _ _) _
        have HCt := Aside0.mk (HC.out.below hWt)
        have HWt := Aside0.mk (below_then HW.out hsz hWt)
        have hMt := HM.out.below HWt.out
        have HCon := Aside0.mk (fun (u : World) (hu : Below w.heap.size w u) (x : Int) => containsI MA M mc ms x u (HM.out.below hu) hMl)
        obtain ⟨Av, cv, rfl, hcv⟩ := shape_of HC.out.stk
        clear hcells htb ht hBw hWt hMt
        go_wp2_with fail
        have hltp : wr.heap.size < (wr.alloc (.cells #[.int .i64 t0, .int .i64 t1] 37)).heap.size := by rw [alloc_size]; omega
        clear hc0 hc1 HW HC
        generalize wr.alloc (.cells #[.int .i64 t0, .int .i64 t1] 37) = wt at *
        have hBt : w.heap.size ≤ wr.heap.size := hsz
        generalize wr.heap.size = tp at *
        refine (HCon.out _ HWt.out _).mono ?_
        rintro e w6 ⟨r1, rfl, m6, rfl⟩
        have HC6 := Aside0.mk (HCt.out.below (pw_below_drewN (Below.refl _ _) m6))
        have HW6 := Aside0.mk (below_then HWt.out HWt.out.size (pw_below_drewN (Below.refl _ _) m6))
        have HTp6 : Aside0 ((wt.drewN m6).heap[tp]? = some (.cells #[.int .i64 t0, .int .i64 t1] 37)) := HTp
        have hl6 : tp < (wt.drewN m6).heap.size := hltp
        clear HCt HWt HTp hltp
        generalize wt.drewN m6 = w6 at *
        go_upto_if 61 with (fail)
        go_cut [12] (fun s12 wx => ∃ S1 st1, Aside0 (Core wx w.heap.size r p k s m sz mb (n + 1) S1 b q l s12 st1) ∧ Aside0 (Pure_ S1 l st1 ∧ Good S1 ∧ S1.lr ≤ n) ∧ Aside0 (Below w.heap.size w wx) ∧ Aside0 (wx.heap[tp]? = some (.cells #[.int .i64 t0, .int .i64 t1] 37)))
        case first =>
          cases r1 with
          | false =>
            go_wp2_with fail
            go_meet
            exact ⟨S, st, ⟨HC6.out.more _ (Nat.le_succ n)⟩, ⟨HP.out, HC6.out.good, HC6.out.lr⟩, HW6, HTp6⟩
          | true =>
            have hlm : S.lm ≤ n := HC6.out.lm
            have HLR := Lib.hid HC6.out.lr
            go_wp2_with fail
            refine (markA HC6.out.arena HC6.out.good HC6.out.book (by omega)).mono ?_
            rintro e w7 (⟨rfl, hst⟩ | ⟨rfl, hl100, mv', hst⟩)
            · have HB7 := Aside0.mk (HW6.out.trans (HC6.out.upd hst HW6.out.size))
              clear hst
              go_wp2_with fail
              go_ret
              exact ⟨rfl, HB7.out⟩
            · have HB7 := Aside0.mk (HW6.out.trans (HC6.out.upd hst HW6.out.size))
              have HC7 := Aside0.mk (HC6.out.step hst HC6.out.one (HC6.out.good.mark mv' (tendOf S.rs) hl100) (n + 1) (Nat.le_succ_of_le HC6.out.lr) (Nat.succ_le_succ hlm) HW6.out.size)
              have HTp7 := Aside0.mk (hst.stays HC6.out.arena HC6.out.book HTp6.out (.inl rfl))
              have HLen := Aside0.mk (alenOf HC7.out.arena HC7.out.good)
              have HLost := Aside0.mk (fun (u : World) (hu : Below w7.heap.size w7 u) => lost (HC7.out.arena.below hu) HC7.out.good)
              have HReg := Aside0.mk (fun (u : World) (hu : Below w7.heap.size w7 u) => regionsOf (HC7.out.arena.below hu) HC7.out.good)
              have hll : S.lm + 1 ≤ 4611686018427387904 := by omega
              obtain ⟨ith, hith, tz0, tz1, tz2⟩ := info_parts infoT
              have hstl : st.length ≤ 100 := by
                have h1 := HP.out.says.len
                omega
              have HSO : Aside0 (∀ u, Below w7.heap.size w7 u → u.ownsRow w.heap.size 44 4 (.slice Av st.length cv) st.length (rowsOf Thn.cells st)) := ⟨fun u hu => (HC7.out.below hu).stk.own⟩
              have hB7s := HB7.out.size
              clear hst hl100 HC6 HW6 HTp6 hl6
              go_wp2_with (first | (go_at_call 10; refine HLen.out.mono ?_; rintro e w8 ⟨rfl, hb8⟩; have HB8 := Aside0.mk hb8; clear hb8) | (go_at_call 11; refine (HLost.out _ HB8.out).mono ?_; rintro e w9 ⟨rfl, hb9⟩; have HB9 := Aside0.mk (below_then HB8.out HB8.out.size hb9); clear hb9) | (go_at_call 12; refine (HReg.out _ HB9.out).mono ?_; rintro e w10 ⟨v10, rfl, ho10, hb10⟩; obtain ⟨A10, cap10, rfl, hc10, hr10, hy10⟩ := own_readsI ho10; have HB10 := Aside0.mk (below_then HB9.out HB9.out.size hb10); have HR10 := Aside0.mk (And.intro hr10 ho10); clear ho10 hb10 hr10 hc10 hy10) | (at_builtin; refine wpList_append_own _ rfl (.tmp 71) (.tmp 80) 35 rfl w.heap.size 44 ith (.agg #[.int .i64 0, .int .i64 0, .int .i64 0, .slice none 0 0]) 4 48 Try.underlying35 hith tz0 tz1 tz2 rfl (by decide) (.slice Av st.length cv) st.length (rowsOf Thn.cells st) rfl (HSO.out _ (by exact below_alloc HB10.out _)) ⟨w10.heap.size, 0, none⟩ 1 1 [.int .i64 ((S.lm + 1 : Nat) : Int), .int .i64 (alen S.rs), .int .i64 (lostOf S), .slice A10 S.rs.length cap10] rfl rfl (four_src (by exact blk_new w10 _)) (by simp [Value.oneCell']) (by simp only [maxLen]; omega) (by omega) (by have := HB10.out.size; rw [alloc_size]; omega) ?_; intro v' w11 ho11 hg11 _; have HO11 := Aside0.mk (And.intro ho11 hg11); clear ho11 hg11))
              have hN := (nosAt_of (no := ((S.lm + 1 : Nat) : Int)) (len := alen S.rs) (lost := lostOf S) HR10.out.1 HR10.out.2).below (below_alloc (Below.refl _ _) (.cells #[.int .i64 ((S.lm + 1 : Nat) : Int), .int .i64 (alen S.rs), .int .i64 (lostOf S), .slice A10 S.rs.length cap10] 44))
              obtain ⟨hcore, hbel⟩ := HC7.out.pushed (below_alloc HB10.out _) HO11.out.2 HO11.out.1 hN HB7.out.size
              go_meet
              exact ⟨_, _, ⟨hcore⟩, ⟨marked_pure HP.out mv' _ rfl rfl rfl rfl, HC7.out.good, HLR.out⟩, ⟨HB7.out.trans hbel⟩, ⟨blk_grown (blk_alloc (blk_below HTp7.out HB10.out) _) HO11.out.2 (own_ne HC7.out.stk.own HTp7.out (by decide))⟩⟩
        case rest =>
          clear HC6 HP HW6 HTp6 hl6
          obtain ⟨S1, st1, HC7, HP7, HW7, HTp7⟩ := hcut
          generalize wc = w7 at *
          obtain ⟨Aw, cw, rfl, hcw⟩ := shape_of HC7.out.stk
          have c0 : w7.cell? ⟨tp, 0, none⟩ = some (.int .i64 t0) := by rw [blk_cell HTp7.out]; rfl
          have c1 : w7.cell? ⟨tp, 1, none⟩ = some (.int .i64 t1) := by rw [blk_cell HTp7.out]; rfl
          go_upto_region 19 with (fail)
          go_cut [18, 19] (fun s18 s19 wx => ∃ (no err : Int) (S2 : ArS) (b2 : BookS) (q2 : Parts), s18 = .int .i64 no ∧ s19 = .int .i64 err ∧ Aside0 (Core wx w.heap.size r p k s m sz mb (n + 1) S2 b2 q2 l (.slice Aw st1.length cw) st1) ∧ Aside0 ((err ≠ 0 ∧ Pure_ S2 l st1) ∨ (err = 0 ∧ no = ((S1.lr + 1 : Nat) : Int) ∧ ∃ N i bb : Nat, t0 = (N : Int) ∧ N ≤ 100000 ∧ Took S1 S2 N i bb)) ∧ Aside0 (Below w.heap.size w wx) ∧ Aside0 (wx.heap[tp]? = some (.cells #[.int .i64 t0, .int .i64 t1] 37)))
          case first =>
            by_cases hr : (0 ≤ t0 ∧ t0 ≤ 100000) ∧ 1 ≤ t1 ∧ t1 ≤ 64
            · obtain ⟨n0, rfl⟩ : ∃ n0 : Nat, t0 = n0 := ⟨t0.toNat, by omega⟩
              obtain ⟨a0, rfl⟩ : ∃ a0 : Nat, t1 = a0 := ⟨t1.toNat, by omega⟩
              have HTk := Aside0.mk (takeA HC7.out.arena HC7.out.good HC7.out.book HC7.out.one hsz1 (by have := HP7.out.2.2; omega) n0 a0 (by omega) (by omega) (by omega))
              have hn0 : n0 ≤ 100000 := by omega
              clear hr
              go_wp2_with fail
              refine HTk.out.mono ?_
              rintro e w8 (⟨err, S2, b2, q2, herr, rfl, hst, rfl, rfl⟩ | ⟨S2, b2, q2, i0, bb, rfl, hst, hone, hT⟩)
              · have HC8 := Aside0.mk (HC7.out.step hst HC7.out.one HC7.out.good (n + 1) HC7.out.lr HC7.out.lm HW7.out.size)
                have HW8 := Aside0.mk (HW7.out.trans (HC7.out.upd hst HW7.out.size))
                have HTp8 := Aside0.mk (hst.stays HC7.out.arena HC7.out.book HTp7.out (.inl rfl))
                have HE := Lib.hid herr
                clear hst herr c0 c1 HTk
                go_wp2_with fail
                go_meet
                exact ⟨0, err, _, _, q2, rfl, rfl, HC8, ⟨.inl ⟨HE.out, HP7.out.1⟩⟩, HW8, HTp8⟩
              · have HC8 := Aside0.mk (HC7.out.step hst hone hT.good (n + 1) (by rw [hT.lr]; have := HP7.out.2.2; omega) (by rw [hT.lm]; exact HC7.out.lm) HW7.out.size)
                have HW8 := Aside0.mk (HW7.out.trans (HC7.out.upd hst HW7.out.size))
                have HTp8 := Aside0.mk (hst.stays HC7.out.arena HC7.out.book HTp7.out (.inl rfl))
                have HT8 := Aside0.mk hT
                clear hst hone hT c0 c1 HTk
                go_wp2_with fail
                go_meet
                exact ⟨_, 0, S2, b2, q2, rfl, rfl, HC8, ⟨.inr ⟨rfl, rfl, n0, i0, bb, rfl, hn0, HT8.out⟩⟩, HW8, HTp8⟩
            · have HTk := Aside0.mk (take_range HC7.out.arena t0 t1 hr)
              clear hr
              go_wp2_with fail
              refine HTk.out.mono ?_
              rintro e w8 ⟨rfl, hb8⟩
              have HC8 := Aside0.mk (HC7.out.below hb8)
              have HW8 := Aside0.mk (below_then HW7.out HW7.out.size hb8)
              have HTp8 := Aside0.mk (blk_below HTp7.out hb8)
              clear hb8 c0 c1 HTk
              go_wp2_with fail
              go_meet
              exact ⟨0, 2, S1, b, q, rfl, rfl, HC8, ⟨.inl ⟨by decide, HP7.out.1⟩⟩, HW8, HTp8⟩
          case rest =>
            obtain ⟨no, err, S2, b2, q2, rfl, rfl, HC8, HR8, HW8, HTp8⟩ := hcut
            clear c0 c1 HC7 HW7 HTp7
            generalize wc = w8 at *
            obtain ⟨bE, hbE⟩ : ∃ bE, (err == 0) = bE := ⟨_, rfl⟩
            have HBE := Lib.hid hbE
            go_upto_if 92 with (fail)
            clear hbE
            go_cut [] (fun wx => ∃ S3 l3, Aside0 (Core wx w.heap.size r p k s m sz mb (n + 1) S3 b2 q2 l3 (.slice Aw st1.length cw) st1) ∧ Aside0 (Pure_ S3 l3 st1) ∧ Aside0 (Below w.heap.size w wx))
            case first =>
              rcases HR8.out with ⟨he, hP⟩ | ⟨he, hno, N0, i0, bb, rfl, hN0, hT⟩
              · have hbf : bE = false := by rw [← HBE.out]; exact beq_eq_false_iff_ne.2 he
                subst hbf
                have HP8 := Aside0.mk hP
                clear he hP HR8
                go_wp2_with fail
                go_meet
                exact ⟨S2, l, HC8, HP8, HW8⟩
              · have hbt : bE = true := by rw [← HBE.out, he]; rfl
                subst hbt
                obtain ⟨c, hc, hfit, hcl, hz⟩ := took_fits hT
                obtain ⟨NO, hNO⟩ : ∃ NO : Int, NO = ((S1.lr + 1 : Nat) : Int) := ⟨_, rfl⟩
                rw [← hNO] at hno
                subst hno
                have hy : S2.rs[S1.rs.length]? = some ⟨no, i0, bb, bb + N0⟩ := by
                  rw [hT.rs, List.getElem?_append_right (Nat.le_refl _), Nat.sub_self, hNO]
                  rfl
                have hLk := lookAt HC8.out.arena HC8.out.good hy hc
                simp only [Nat.add_sub_cancel_left] at hLk
                have HLk := Aside0.mk hLk
                have HT8 := Aside0.mk hT
                have hPN := took_pure HP7.out.1 HP7.out.2.1 hT hc hfit
                rw [← hNO] at hPN
                have HPN := Aside0.mk hPN
                have hrow := HC8.out.arena.rows c (List.mem_of_getElem? hc)
                have HRow := Aside0.mk hrow
                have HCc := Lib.hid hc
                have HFit := Lib.hid hfit
                have HCl := Lib.hid hcl
                have HZz := Lib.hid hz
                have hno0 : 0 ≤ no := by omega
                obtain ⟨V, hV⟩ : ∃ V, V = byteOf no := ⟨_, rfl⟩
                have hwr : IntKind.u8.wrap no = V := by rw [hV]; exact byteOf_wrap no hno0
                rw [← hV] at HPN
                have HV := Lib.hid hV
                clear he hT hLk hy hc hcl hz HR8 hNO hPN hV hrow hfit
                go_wp2_with fail
                refine HLk.out.mono ?_
                rintro e w9 ⟨A9, rfl, hA9, hb9⟩
                have HC9 := Aside0.mk (HC8.out.below hb9)
                have HW9 := Aside0.mk (below_then HW8.out HW8.out.size hb9)
                have HRow9 := Aside0.mk (HRow.out.below hb9)
                have hz9 := look_reads (A := A9) HRow9.out (Nat.le_add_right bb N0) HFit.out HCl.out hA9
                rw [Nat.add_sub_cancel_left, HZz.out] at hz9
                have HAll := Aside0.mk (allZ A9 N0 N0 w9 hz9 hN0)
                have d0 : w9.cell? ⟨tp, 0, none⟩ = some (.int .i64 N0) := by rw [blk_cell (blk_below HTp8.out hb9)]; rfl
                have HA9 := Lib.hid hA9
                clear hz9 hA9 hb9 HC8 HW8 HTp8 HRow HLk
                go_upto_region 24 with (go_at_call 15; refine HAll.out.mono ?_; rintro e w10 ⟨rfl, m10, rfl⟩)
                have HC10 := Aside0.mk (HC9.out.below (pw_below_drewN (Below.refl _ _) m10))
                have HW10 := Aside0.mk (below_then HW9.out HW9.out.size (pw_below_drewN (Below.refl _ _) m10))
                have HRow10 : Aside0 (Row (w9.drewN m10) c.g c.ys) := HRow9
                clear HC9 HW9 HRow9 HAll d0
                generalize w9.drewN m10 = w10 at *
                obtain ⟨w11, hup, hm11, hg11, _⟩ := run_update (P := Try.prog) (t := 36) Try.underlying36 Try.underlying3 HC10.out.map no (.int .u8 V)
                obtain ⟨hc11, hb11⟩ := HC10.out.mapped hm11 hg11 HW10.out.size
                have HC11 := Aside0.mk hc11
                have HW11 := Aside0.mk (HW10.out.trans hb11)
                have HRow11 : Aside0 (Row w11 c.g c.ys) := ⟨hc11.arena.rows c (List.mem_of_getElem? HCc.out)⟩
                clear hc11 hb11 hm11 hg11 HC10 HW10 HRow10
                go_wp2_with fail
                clear hup
                go_loopw [22, 118] (fun _ i (wr : World) => ∃ kk : Nat, kk ≤ N0 ∧ i = .int .i64 kk ∧ Aside0 (Row wr c.g (c.ys.take bb ++ List.replicate kk V ++ c.ys.drop (bb + kk))) ∧ Aside0 (Upd (fun j => j = c.g) w11 wr)) (fun _ i _ => N0 - (intOf i).toNat)
                case atStart => exact ⟨0, Nat.zero_le _, rfl, ⟨by simpa using HRow11.out⟩, ⟨Upd.refl _ _⟩⟩
                case round =>
                  obtain ⟨kk, hkk, rfl, HRk, HUk⟩ := hrel
                  by_cases hkl : kk < N0
                  · have hA := HA9.out (by omega)
                    subst hA
                    have hlen : bb + kk < c.ys.length := by have := HFit.out; omega
                    have hcell := HRk.out.cell (bb + kk) (by rw [put_len' V (by omega)]; exact hlen)
                    have hfz := HRk.out.frozen (bb + kk)
                    have HRn := Aside0.mk (put_next V hlen ▸ HRk.out.put (bb + kk) V)
                    have HUn := Aside0.mk (HUk.out.setCell ⟨c.g, bb + kk, none⟩ (.inl rfl) (.int .u8 V))
                    clear hlen
                    go_wp2_with fail
                    go_roundw
                    case rel => exact ⟨kk + 1, by omega, by go_num, HRn, HUn⟩
                    case measure => simp [intOf]; omega
                  · obtain rfl : kk = N0 := by omega
                    obtain ⟨hc12, hb12⟩ := HC11.out.wrote (os := List.replicate kk V) HCc.out (by simpa using HFit.out) (by simpa using HRk.out) HUk.out HW11.out.size
                    have HC12 := Aside0.mk hc12
                    have HW12 := Aside0.mk (HW11.out.trans hb12)
                    clear hc12 hb12
                    go_wp2_with fail
                    go_meet
                    exact ⟨_, _, HC12, HPN, HW12⟩
            case rest =>
              clear HC8 HR8 HW8 HTp8
              obtain ⟨S3, l3, HC9, HP9, HW9⟩ := hcut
              generalize wc = w9 at *
              go_wp2_with fail
              refine (apartA HC9.out.arena HC9.out.good HP9.out.ord HP9.out.filled HC9.out.map HP9.out.get).mono ?_
              rintro e w10 ⟨rfl, hb10⟩
              have HC10 := Aside0.mk (HC9.out.below hb10)
              have HW10 := Aside0.mk (below_then HW9.out HW9.out.size hb10)
              clear HC9 HW9 hb10
              obtain ⟨L, hL⟩ : ∃ L, L = st1.length := ⟨_, rfl⟩
              rw [← hL] at HC10 hcw ⊢
              have HL := Lib.hid hL
              clear hL
              go_upto_region 32 with fail
              go_cut [139] (fun s139 wx => ∃ rb : Bool, s139 = .bool rb ∧ (rb = true → 0 < L) ∧ Aside0 (Core wx w.heap.size r p k s m sz mb (n + 1) S3 b2 q2 l3 (.slice Aw L cw) st1) ∧ Aside0 (Below w.heap.size w wx))
              case first =>
                go_wp2_with fail
                refine (HCon.out _ HW10.out _).mono ?_
                rintro e w11 ⟨r2, rfl, m11, rfl⟩
                have HC11 := Aside0.mk (HC10.out.below (pw_below_drewN (Below.refl _ _) m11))
                have HW11 := Aside0.mk (below_then HW10.out HW10.out.size (pw_below_drewN (Below.refl _ _) m11))
                clear HC10 HW10
                cases r2 with
                | false =>
                  go_wp2_with fail
                  go_meet
                  exact ⟨false, rfl, (fun h => by cases h), HC11, HW11⟩
                | true =>
                  cases L with
                  | zero =>
                    go_wp2_with fail
                    go_meet
                    exact ⟨false, rfl, (fun h => by cases h), HC11, HW11⟩
                  | succ L =>
                    have hd : decide (0 < (L : Int) + 1) = true := decide_eq_true (by omega)
                    go_wp2_with fail
                    go_meet
                    exact ⟨true, rfl, fun _ => by omega, HC11, HW11⟩
              case rest =>
                obtain ⟨rb, rfl, hrb, HC11, HW11⟩ := hcut
                clear HC10 HW10
                generalize wc = w11 at *
                go_upto_if 139 with fail
                cases rb with
                | false =>
                  go_wp2_with fail
                  go_roundw
                  case rel => exact ⟨n + 1, S3, b2, q2, l3, st1, by omega, by go_num, HC11, HP9, HW11⟩
                  case measure => simp [intOf]; omega
                | true =>
                  obtain ⟨i, hi⟩ : ∃ i, L = i + 1 := ⟨L - 1, by have := hrb rfl; omega⟩
                  subst hi
                  obtain ⟨t, ht⟩ : ∃ t, st1[i]? = some t := ⟨_, List.getElem?_eq_getElem (by rw [← HL.out]; omega)⟩
                  obtain ⟨x, hx⟩ : ∃ x, S3.ms[i]? = some x := ⟨_, List.getElem?_eq_getElem (by rw [← HP9.out.says.len, ← HL.out]; omega)⟩
                  obtain ⟨e1, e2, e3, e4, e5⟩ := HP9.out.says.each i t x ht hx
                  have htend := tend_ok HP9.out ht hx
                  have hown := HC11.out.stk.own
                  rw [← HL.out] at hown
                  obtain ⟨g, rfl, c0, c1, c2, c3⟩ := thnAt hown ht
                  have hnos := HC11.out.stk.rows t (List.mem_of_getElem? ht)
                  obtain ⟨ith, hith, tz0, tz1, tz2⟩ := info_parts infoT
                  have hsl := fun W => cut_to (P := Try.prog) 35 44 .i64 Try.underlying35 hith (some ⟨g, 0, none⟩) (i + 1) cw (i : Int) (by omega) (by omega) hcw W
                  simp only [Int.toNat_natCast] at hsl
                  obtain ⟨tm, tl, tlo, tA, tn, tc2, tnos⟩ := t
                  simp only at e1 e2 e3 e4 c0 c1 c2 c3
                  subst e1 e2 e3 e4
                  have hnl := hnos.1.1
                  simp only [nosOf, List.length_map] at hnl
                  subst hnl
                  have hil : i ≤ 100 := by
                    have h1 := HP9.out.says.len
                    have h2 := HC11.out.good.fewM
                    have := HL.out
                    omega
                  have hmany := HC11.out.good.many x (List.mem_of_getElem? hx)
                  have hfewR := HC11.out.good.fewR
                  obtain ⟨LL, hLL⟩ : ∃ LL : Int, LL = alen (S3.rs.take x.many) := ⟨_, rfl⟩
                  obtain ⟨LO, hLO⟩ : ∃ LO, LO = lostC S3.cs (S3.rs.take x.many) := ⟨_, rfl⟩
                  obtain ⟨NN, hNN⟩ : ∃ NN, NN = (S3.rs.take x.many).length := ⟨_, rfl⟩
                  have hNl : NN ≤ 1000000000 := by rw [hNN, List.length_take]; omega
                  rw [← hLL] at c1
                  rw [← hLO] at c2
                  rw [← hNN] at c3
                  have HLL := Lib.hid hLL
                  have HLO := Lib.hid hLO
                  have HNN := Lib.hid hNN
                  have HX := Lib.hid hx
                  have HTE := Aside0.mk htend
                  have HMem := Lib.hid (List.mem_of_getElem? ht)
                  have HSb := Aside0.mk (blk_new w11 (.cells #[.int .i64 x.no, .int .i64 LL, .int .i64 LO, .slice tA NN tc2] 44))
                  have hbW : Below w11.heap.size w11 (w11.alloc (.cells #[.int .i64 x.no, .int .i64 LL, .int .i64 LO, .slice tA NN tc2] 44)) := below_alloc (Below.refl _ _) _
                  have HC12 := Aside0.mk (HC11.out.below hbW)
                  have HW12 := Aside0.mk (below_then HW11.out HW11.out.size hbW)
                  have n0 : (w11.alloc (.cells #[.int .i64 x.no, .int .i64 LL, .int .i64 LO, .slice tA NN tc2] 44)).cell? ⟨w11.heap.size, 0, none⟩ = some (.int .i64 x.no) := by rw [blk_cell HSb.out]; rfl
                  clear hLL hLO hNN hx htend ht hbW e5 hnos hown ith hith tz0 tz1 tz2 hrb hmany hfewR
                  go_wp2_with fail
                  clear n0 hsl c0 c1 c2 c3 HC11 HW11
                  generalize w11.alloc (.cells #[.int .i64 x.no, .int .i64 LL, .int .i64 LO, .slice tA NN tc2] 44) = w12 at *
                  generalize w11.heap.size = sb at *
                  refine (releaseA HC12.out.arena HC12.out.good HC12.out.book HX.out HTE.out).mono ?_
                  rintro e w13 ⟨gone, rv', mv', rfl, hst⟩
                  have hc13 : Core w13 w.heap.size r p k s m sz mb (n + 1) { S3 with rv := rv', rs := S3.rs.take x.many, mv := mv', ms := S3.ms.take i } b2 q2 l3 (.slice (some ⟨g, 0, none⟩) (i + 1) cw) st1 := HC12.out.step hst HC12.out.one (HC12.out.good.cut HX.out rv' mv') (n + 1) HC12.out.lr HC12.out.lm HW12.out.size
                  have HC13 := Aside0.mk hc13
                  have HW13 := Aside0.mk (HW12.out.trans (HC12.out.upd hst HW12.out.size))
                  have HP13 := Aside0.mk (released_pure HP9.out HC12.out.good HX.out rv' mv')
                  have hsb13 := hst.stays HC12.out.arena HC12.out.book HSb.out (.inr (.inr rfl))
                  have hn13 := (hc13.stk.rows _ HMem.out).1
                  simp only [← HNN.out] at hn13
                  have HN13 := Aside0.mk hn13
                  have HLen : Aside0 (∀ u, Below w13.heap.size w13 u → Calls Try.prog 10 #[.pointer (some ⟨r, 0, none⟩)] u fun e w' => e = .returned (.int .i64 LL) ∧ Below u.heap.size u w') := ⟨fun u hu => by
                    rw [HLL.out]
                    exact alenOf (HC13.out.arena.below hu) HC13.out.good⟩
                  have HLost : Aside0 (∀ u, Below w13.heap.size w13 u → Calls Try.prog 11 #[.pointer (some ⟨r, 0, none⟩)] u fun e w' => e = .returned (.int .i64 LO) ∧ Below u.heap.size u w') := ⟨fun u hu => by
                    rw [HLO.out]
                    exact lost (HC13.out.arena.below hu) HC13.out.good⟩
                  have HReg : Aside0 (∀ u, Below w13.heap.size w13 u → Calls Try.prog 12 #[.pointer (some ⟨r, 0, none⟩)] u fun e w' => ∃ v, e = .returned v ∧ w'.ownsRow u.heap.size 3 1 v NN (litsI (nosOf (S3.rs.take x.many))) ∧ Below u.heap.size u w') := ⟨fun u hu => by
                    rw [HNN.out]
                    exact regionsOf (HC13.out.arena.below hu) HC13.out.good⟩
                  have HS13 : Aside0 (∀ u, Below w13.heap.size w13 u → u.cell? ⟨sb, 1, none⟩ = some (.int .i64 LL) ∧ u.cell? ⟨sb, 2, none⟩ = some (.int .i64 LO) ∧ u.cell? ⟨sb, 3, none⟩ = some (.slice tA NN tc2)) := ⟨fun u hu => by
                    have h1 := blk_below hsb13 hu
                    exact ⟨by rw [blk_cell h1]; rfl, by rw [blk_cell h1]; rfl, by rw [blk_cell h1]; rfl⟩⟩
                  clear hst hc13 hsb13 hn13 HC12 HW12 HSb HP9
                  go_upto_region 36 with fail
                  go_cut [181] (fun s181 wx => s181 = .bool false ∧ Aside0 (Below w13.heap.size w13 wx))
                  case first =>
                    go_region_held3 (fun u => u.cell? ⟨sb, 1, none⟩ = some (.int .i64 LL) ∧ u.cell? ⟨sb, 2, none⟩ = some (.int .i64 LO) ∧ u.cell? ⟨sb, 3, none⟩ = some (.slice tA NN tc2)) (first | exact HS13.out _ (below_drew (Below.refl _ _)) | exact HS13.out _ HB14.out | exact HS13.out _ HB15.out | exact HS13.out _ HB16.out | exact HS13.out _ HB17.out) (first | (go_at_call 10; refine (HLen.out _ (below_drew (Below.refl _ _))).mono ?_; rintro e w14 ⟨rfl, hb14⟩; have HB14 := Aside0.mk (below_then (below_drew (Below.refl _ _)) (Nat.le_refl _) hb14); clear hb14) | (go_at_call 11; refine (HLost.out _ HB14.out).mono ?_; rintro e w15 ⟨rfl, hb15⟩; have HB15 := Aside0.mk (below_then HB14.out HB14.out.size hb15); clear hb15) | (go_at_call 12; refine (HReg.out _ HB15.out).mono ?_; rintro e w16 ⟨v16, rfl, ho16, hb16⟩; obtain ⟨A16, cap16, rfl, hc16, hr16, hy16⟩ := own_readsI ho16; have HB16 := Aside0.mk (below_then HB15.out HB15.out.size hb16); have HR16 := Aside0.mk hr16; clear hb16 hc16 hr16 hy16 ho16) | (go_at_call 19; refine (equalI A16 tA cap16 tc2 NN (nosOf (S3.rs.take x.many)) w16 HR16.out (HN13.out.below HB16.out) hNl).mono ?_; rintro e w17 ⟨rfl, hb17⟩; have HB17 := Aside0.mk (below_then HB16.out HB16.out.size hb17); clear hb17))
                    all_goals
                      go_wp2_with fail
                      go_meet
                      exact ⟨rfl, HB17⟩
                  case rest =>
                    obtain ⟨rfl, HB18⟩ := hcut
                    have HC18 := Aside0.mk ((HC13.out.popped HL.out i (Nat.le_succ i)).below HB18.out)
                    have HW18 := Aside0.mk (below_then HW13.out HW13.out.size HB18.out)
                    clear HC13 HW13 HS13 HReg HLost HLen
                    go_wp2_with fail
                    go_roundw
                    case rel => exact ⟨n + 1, _, b2, q2, l3, st1.take i, by omega, by go_num, HC18, HP13, HW18⟩
                    case measure => simp [intOf]; omega
      · obtain rfl : n = N := by omega
        have hhd := held HC.out.book 1
        rw [HC.out.one.held] at hhd
        have HH := Aside0.mk hhd
        have HRm := Aside0.mk (aroomOf HC.out.arena HC.out.good)
        clear hhd
        obtain ⟨R, hR⟩ : ∃ R, R = aroom S.cs := ⟨_, rfl⟩
        rw [← hR] at HH HRm
        clear hR
        go_wp2_with (first | (go_at_call 20; refine HH.out.mono ?_; rintro e w8 ⟨rfl, rfl⟩) | (go_at_call 21; refine HRm.out.mono ?_; rintro e w8 ⟨rfl, m8, rfl⟩))
        go_ret
        exact ⟨rfl, pw_below_drewN HW.out _⟩
end Go.Proofs.Yticbjaclnneaoaa.Arena

namespace Go.Proofs.Yticbjaclnneaoaa.Arena
set_option linter.unusedVariables false
open Go.RowKit Go.Proofs.YticbjaclnneaoaaW.PrintWords Go.Proofs.YticbjaclnneaoaaW.PrintLast Go.Proofs.YticbjaclnneaoaaW.PrintMore Go.Proofs.Yticbjaclnneaoaa.Book Go.Proofs.Yticbjaclnneaoaa.Oct Go.Proofs.Yticbjaclnneaoaa.Pure
set_option linter.unusedSimpArgs false
theorem topArena_row (k s m size : Int) (a2 : Option Addr) (len2 cap2 : Nat) (t : Nat → Int × Int) (a3 : Option Addr) (len3 cap3 : Nat) (zs3 : List Int) (w : World) (_ : (Lit.int .i64 k).wf = true) (_ : (Lit.int .i64 s).wf = true) (_ : (Lit.int .i64 m).wf = true) (_ : (Lit.int .i64 size).wf = true)
    (hrow2 : (a2 = none ∧ len2 = 0 ∧ cap2 = 0) ∨ ∃ x, a2 = some x ∧ len2 ≤ cap2 ∧ cap2 ≤ maxLen ∧ ∀ i, i < len2 → w.cell? (x.add (i * 2)) = some (.int .i64 (t i).1) ∧ w.cell? (x.add (i * 2 + 1)) = some (.int .i64 (t i).2))
    (y2 : len2 * 16 ≤ 140737488351232) (hrow : (a3 = none ∧ len3 = 0 ∧ cap3 = 0 ∧ zs3 = []) ∨
    ∃ x, a3 = some x ∧ len3 ≤ cap3 ∧ cap3 ≤ maxLen ∧ zs3.length = cap3 ∧ (∀ i, i < zs3.length → w.cell? (x.add i) = some (.int .i64 (zs3.getD i 0))) ∧ ∀ n ∈ zs3, (Lit.int .i64 n).wf = true) (y3 : len3 * 8 ≤ 140737488351232) :
    Calls Try.prog 3 #[.agg #[.int .i64 k, .int .i64 s, .int .i64 m], .int .i64 size, .slice a2 len2 cap2, .slice a3 len3 cap3] w fun e w' => e = .returned (.bool true) ∧ Below w.heap.size w w' := by
  have ht : Pairs w a2 len2 t := fun h0 => by
    rcases hrow2 with ⟨_, h1, _⟩ | ⟨x, rfl, _, _, hc⟩
    · omega
    · obtain ⟨b, o, sp⟩ := x
      have h00 := (hc 0 h0).1
      have hsp : sp = none := by
        cases sp with
        | none => rfl
        | some v =>
          exfalso
          simp only [Addr.add, World.cell?] at h00
          split at h00 <;> simp at h00
      subst hsp
      refine ⟨b, o, rfl, ?_, fun i hi => ?_⟩
      · have := World.block_lt_of_cell? w _ h00
        simpa [Addr.add] using this
      · obtain ⟨q0, q1⟩ := hc i hi
        rw [Oct.add_at] at q0 q1
        exact ⟨q0, q1⟩
  obtain ⟨xs, rfl, hr, _, _, _⟩ := ReadsInt.ofRowC hrow
  exact topArena k s m size a2 a3 len2 cap2 _ cap3 t xs w ht hr (by omega) (by omega)
end Go.Proofs.Yticbjaclnneaoaa.Arena
