/- Groups, at any slices. -/
import Derived.Test.YtghdeoeajbnfkaaWVisitA
import Derived.Test.YtghdeoeajbnfkaaWMallP
import Derived.Deep.RegionHeld3
import Derived.Deep.DeepCutAuto
namespace Go.Proofs.Ytghdeoeajbnfkaa.WSl
open Go.RowKit Go.Proofs.YtghdeoeajbnfkaaW.PrintWords Go.Proofs.YtghdeoeajbnfkaaW.PrintLast Go.Proofs.YtghdeoeajbnfkaaW.PrintMore Go.Proofs.Ytghdeoeajbnfkaa.WMem Go.Proofs.Ytghdeoeajbnfkaa.MapInt
set_option linter.unusedSimpArgs false
set_option linter.unusedVariables false

/-- append, by its run: as a step of a region. -/
theorem step_append_eq {P : Program} {ops : Array Oper} {o : Oper} {a : Act} {w w1 : World} {K : Act → World → Prop} {Q : Exit → Act → World → Prop} {E : Prop}
    (hg : o.guard = none) (s x : Operand) (t : TypeId) (hop : o.op = Op.call { callee := Callee.builtin Builtin.append, args := #[s, x], argTypes := #[t, t] })
    (v y v1 : Value) (hs : a.eval s = v) (hx : a.eval x = y) (hr : ∀ ty, (Builtin.append_ #[t, t] ty #[v, y]).run P w = .ok v1 w1) (hK : K (a.put o.dst v1) w1) :
    if Region.wanted o (yielded ops a.tmps) = true then Oper.wp P o a w K Q else E := by
  have hw : Region.wanted o (yielded ops a.tmps) = true := by simp [Region.wanted, hg]
  rw [if_pos hw]
  unfold Oper.wp execOp
  simp only [hop, resolve, invoke, builtin, Sem.run_bind, Sem.run_pure, Result.andThen_ok, List.map_toArray, List.map_cons, List.map_nil, hs, hx, hr]
  exact hK

/-- While the leads are laid. -/
structure PMid (w wr : World) (r : Nat) (v : Value) (out : List Pr) (k : Nat) : Prop where
  below : Below w.heap.size w wr
  size : r + 2 ≤ wr.heap.size
  row : Kd.R kPr 57 wr w.heap.size (fun j => w.heap.size ≤ j ∧ j < r) v out
  box : wr.cell? ⟨r + 1, 0, none⟩ = some (.map (some r))
  leads : ∃ l, Leads wr (r + 2) (fun b => b < wr.heap.size) r l (adjOf (out.take k))

/-- What one pair's two steps leave. -/
theorem PMid.next {w wr wz : World} {r : Nat} {v : Value} {out : List Pr} {k : Nat} {l : List (Int × Value)} (h : PMid w wr r v out k) (hk : k < out.length) (hwr : w.heap.size ≤ r) (p : Pr) (hp : out[k]? = some p)
    (hb : Below r wr wz) (hbox : wz.cell? ⟨r + 1, 0, none⟩ = some (.map (some r))) {S : Nat → Prop} (hl : Leads wz (r + 2) S r l (upd (upd (adjOf (out.take k)) p.f0 p.f1) p.f1 p.f0)) : PMid w wz r v out (k + 1) := by
  refine ⟨h.below.trans (hb.mono hwr), Nat.le_trans h.size hb.size, Kd.R_step h.row (fun j hj _ => hb.block j hj.2), hbox, l, ?_⟩
  have ht : out.take (k + 1) = out.take k ++ [p] := by
    rw [List.take_add_one, hp]
    rfl
  rw [ht, adjOf_snoc]
  exact hl.mono (fun b _ hb => hb)

set_option maxHeartbeats 4000000 in
set_option maxRecDepth 100000 in
theorem groupsAll (A : Option Addr) (g o c : Nat) (l : List Sl) (w : World) (hl : RowAt w A g o l) (hs : ∀ s ∈ l, Lies w s) (hn : l.length ≤ 1000000) :
    Calls Try.prog 9 #[.slice A l.length c] w fun e w' => ∃ v ys, e = .returned (.tuple #[v, .int .i64 (chk l)]) ∧ Below w.heap.size w w' ∧ (chk l = 0 → (∃ A' c', v = .slice A' l.length c' ∧ l.length ≤ c' ∧ ReadsInt w' .i64 A' l.length ys) ∧ Labels (adjOf (mall l l.length)) l.length l.length ys) := by
  have hmf : ∀ (fn : Fn) (first cap : Array Value) (w : World), (Instr.makeFunc fn first cap).run Try.prog w = .ok (.func fn first cap) w := fun _ _ _ _ => rfl
  have hmk : ∀ w : World, (Instr.makeMap 64 none).run Try.prog w = .ok (.map (some w.heap.size)) (w.alloc (.map #[] 0)) := fun w => by simp [Instr.makeMap, run_underlying Try.underlying64]
  have HM := Aside0.mk (meetsAll A g o c l w hl hs hn)
  have hcc := chk_cases l
  have HIN := Aside0.mk (mall_inner l)
  have HML := Aside0.mk (mall_le l l.length)
  have hlim : chk l = 0 → l.length ≤ 100 := fun h => by
    unfold chk at h
    split at h
    · cases h
    · omega
  clear hl hs
  generalize chk l = q at *
  generalize mall l l.length = ps at *
  generalize l.length = n at *
  rcases hcc with rfl | rfl
  · go_enter Try.func9, Try.ntmps9
    go_wp2_with (first | (go_at_call 8; refine HM.out.mono ?_; rintro e w1 ⟨v, out, rfl, hmm, _, hv⟩; have HB := Aside0.mk hmm.below; obtain rfl := hv (by decide); clear hmm hv))
    refine bodyPost_ret (results_tmp2 rfl _ _ _) rfl ?_
    exact ⟨_, [], rfl, HB.out, fun h => by cases h⟩
  · have hn2 : n ≤ 100 := hlim rfl
    have hps : ps.length ≤ 10000 := Nat.le_trans HML.out (Nat.le_trans (Nat.mul_le_mul hn2 hn2) (by omega))
    clear hlim
    go_enter Try.func9, Try.ntmps9
    go_wp2_with (first | (go_at_call 8; refine HM.out.mono ?_; rintro e w1 ⟨v, out, rfl, hmm, ho, _⟩; have HB := Aside0.mk hmm.below; obtain rfl := ho rfl; obtain ⟨PA, vc, rfl⟩ := Kd.R_slice hmm.row; have HR := Aside0.mk (Kd.R_mono (Kd.R_bound hmm.row) (fun k hk => (⟨hk.1, hk.2.2.1⟩ : w.heap.size ≤ k ∧ k < w1.heap.size))); clear hmm ho) | fail)
    have hP0 : PMid w ((w1.alloc (.map #[] 0)).alloc (.cells #[.map (some w1.heap.size)] 64)) w1.heap.size (.slice PA out.length vc) out 0 := by
      refine ⟨below_alloc (below_alloc HB.out _) _, by simp, Kd.R_below (Kd.R_below HR.out (below_alloc (Below.refl _ _) _)) (below_alloc (Below.refl _ _) _), ?_, [], ?_⟩
      · have hb := blk_new (w1.alloc (.map #[] 0)) (.cells #[.map (some w1.heap.size)] 64)
        have e1 : (w1.alloc (.map #[] 0)).heap.size = w1.heap.size + 1 := by simp
        rw [e1] at hb
        rw [blk_cell hb]
        rfl
      · exact ((Leads.made w1 (w1.heap.size + 2) (fun b => b < ((w1.alloc (.map #[] 0)).alloc (.cells #[.map (some w1.heap.size)] 64)).heap.size) (by omega)).move (Below.heap_alloc _ _ _ (by simp)) (fun k _ hk _ => Below.heap_alloc _ _ _ hk))
    have HP0 := Aside0.mk hP0
    clear hP0
    obtain ⟨N, hN⟩ : ∃ N, N = out.length := ⟨_, rfl⟩
    rw [← hN] at hps HP0 ⊢
    have HN := Lib.hid hN
    clear hN
    go_loopw [8, 23] (fun _ i wr => ∃ k : Nat, k ≤ N ∧ i = .int .i64 k ∧ Aside0 (PMid w wr w1.heap.size (.slice PA N vc) out k)) (fun _ i _ => N - (intOf i).toNat)
    case atStart => exact ⟨0, Nat.zero_le _, rfl, HP0⟩
    case round =>
      obtain ⟨k, hk, rfl, HD⟩ := hrel
      obtain ⟨w2, hw2⟩ : ∃ w2, w2 = wr := ⟨_, rfl⟩
      subst hw2
      by_cases hlt : k < N
      · obtain ⟨-, -, hC⟩ := Kd.R_reads' HD.out.row
        obtain ⟨ad, hVA, c0, c1⟩ := PWatchSlices.at_T57 hC (k : Int) (by omega) (by have := HN.out; omega)
        subst hVA
        rw [Int.toNat_natCast] at c0 c1
        have hrd : out[k]? = some (PWatchSlices.rd_T57 out (k : Int)) := by
          unfold PWatchSlices.rd_T57
          rw [Int.toNat_natCast, List.getD_eq_getElem?_getD]
          have : k < out.length := by rw [← HN.out]; exact hlt
          simp [this]
        generalize PWatchSlices.rd_T57 out (k : Int) = p at c0 c1 hrd
        have HPK := Lib.hid hrd
        obtain ⟨l0, hl0⟩ := HD.out.leads
        clear hrd hC
        go_upto_region 8 with (fail)
        have hsz1 := HD.out.size
        have hlen1 : (adjOf (out.take k) p.f0).length ≤ 1000000 := by
          have h1 := adjOf_len (out.take k) p.f0
          have h2 : (out.take k).length ≤ N := by rw [List.length_take, ← HN.out]; omega
          omega
        have hlen2 : (upd (adjOf (out.take k)) p.f0 p.f1 p.f1).length ≤ 1000000 := by
          have h1 := adjOf_len (out.take k) p.f1
          have h2 : (out.take k).length ≤ N := by rw [List.length_take, ← HN.out]; omega
          unfold upd
          split
          · rw [List.length_append, List.length_singleton]; omega
          · omega
        have hnb := blk_new w2 (.cells #[.int .i64 p.f0, .int .i64 p.f1] 57)
        have hX6 : (w2.alloc (.cells #[.int .i64 p.f0, .int .i64 p.f1] 57)).cell? ⟨w1.heap.size + 1, 0, none⟩ = some (.map (some w1.heap.size)) := (World.cell?_alloc_lt _ _ _ (cell_lt HD.out.box)).trans HD.out.box
        have hX0 : (w2.alloc (.cells #[.int .i64 p.f0, .int .i64 p.f1] 57)).cell? ⟨w2.heap.size, 0, none⟩ = some (.int .i64 p.f0) := by rw [blk_cell hnb]; rfl
        have hX1 : (w2.alloc (.cells #[.int .i64 p.f0, .int .i64 p.f1] 57)).cell? ⟨w2.heap.size, 1, none⟩ = some (.int .i64 p.f1) := by rw [blk_cell hnb]; rfl
        have hLX : Leads (w2.alloc (.cells #[.int .i64 p.f0, .int .i64 p.f1] 57)) (w1.heap.size + 2) (fun b => b < w2.heap.size) w1.heap.size l0 (adjOf (out.take k)) := hl0.move (Below.heap_alloc _ _ _ hl0.map.lt) (fun b _ hb _ => Below.heap_alloc _ _ _ hb)
        have hBX : Below w1.heap.size w2 (w2.alloc (.cells #[.int .i64 p.f0, .int .i64 p.f1] 57)) := (below_alloc (Below.refl _ _) _).mono (by omega)
        have hsX : (w2.alloc (.cells #[.int .i64 p.f0, .int .i64 p.f1] 57)).heap.size = w2.heap.size + 1 := by simp
        generalize w2.alloc (.cells #[.int .i64 p.f0, .int .i64 p.f1] 57) = u at *
        have hLX2 : Leads u.drew (w1.heap.size + 2) (fun b => b < w2.heap.size) w1.heap.size l0 (adjOf (out.take k)) := hLX.move rfl (fun _ _ _ _ => rfl)
        obtain ⟨v0, v1, u2, u3, e1, e2, e3, e4, hL3, hB3, hs3, hk3⟩ := lead_step u.drew _ _ _ _ _ p.f0 p.f1 hLX2 (by show _ ≤ u.heap.size; omega) hlen1
        have hd : u.drew.heap.size = u.heap.size := rfl
        rw [hd] at e3 hL3 hs3 hk3
        have hda : u.drew.alloc (.cells #[.int .i64 p.f1] 3) = (u.alloc (.cells #[.int .i64 p.f1] 3)).drew := rfl
        rw [hda] at e2 e3
        rw [hsX] at e3
        have hltU := cell_lt hX6
        have r16 : (u.alloc (.cells #[.int .i64 p.f1] 3)).drew.cell? ⟨w1.heap.size + 1, 0, none⟩ = some (.map (some w1.heap.size)) := (World.cell?_alloc_lt _ _ _ (cell_lt hX6)).trans hX6
        have r10 : (u.alloc (.cells #[.int .i64 p.f1] 3)).drew.cell? ⟨w2.heap.size, 0, none⟩ = some (.int .i64 p.f0) := (World.cell?_alloc_lt _ _ _ (cell_lt hX0)).trans hX0
        have r11 : (u.alloc (.cells #[.int .i64 p.f1] 3)).drew.cell? ⟨w2.heap.size, 1, none⟩ = some (.int .i64 p.f1) := (World.cell?_alloc_lt _ _ _ (cell_lt hX1)).trans hX1
        obtain ⟨q6, q6'⟩ := hk3 (w1.heap.size + 1) (by omega) (by omega) (.inl (by omega))
        obtain ⟨q8, q8'⟩ := hk3 w2.heap.size (by omega) (by omega) (.inr (by omega))
        have r26 : u2.cell? ⟨w1.heap.size + 1, 0, none⟩ = some (.map (some w1.heap.size)) := (World.cell?_of_block (a := ⟨w1.heap.size + 1, 0, none⟩) q6).trans hX6
        have r20 : u2.cell? ⟨w2.heap.size, 0, none⟩ = some (.int .i64 p.f0) := (World.cell?_of_block (a := ⟨w2.heap.size, 0, none⟩) q8).trans hX0
        have r21 : u2.cell? ⟨w2.heap.size, 1, none⟩ = some (.int .i64 p.f1) := (World.cell?_of_block (a := ⟨w2.heap.size, 1, none⟩) q8).trans hX1
        have r36 : u3.cell? ⟨w1.heap.size + 1, 0, none⟩ = some (.map (some w1.heap.size)) := (World.cell?_of_block (a := ⟨w1.heap.size + 1, 0, none⟩) q6').trans hX6
        have r30 : u3.cell? ⟨w2.heap.size, 0, none⟩ = some (.int .i64 p.f0) := (World.cell?_of_block (a := ⟨w2.heap.size, 0, none⟩) q8').trans hX0
        have r31 : u3.cell? ⟨w2.heap.size, 1, none⟩ = some (.int .i64 p.f1) := (World.cell?_of_block (a := ⟨w2.heap.size, 1, none⟩) q8').trans hX1
        have HL3 := Aside0.mk hL3
        have HB3 := Aside0.mk (hBX.trans ((below_drew (Below.refl _ _)).trans hB3))
        clear q6 q6' q8 q8' hL3 hB3 hLX hLX2 hBX hnb hl0 hk3
        have HE3 := Aside0.mk e3
        clear e3
        go_cut [37] (fun z9 wc => wc = u3)
        case first =>
          go_region_held3 (fun w' => w'.cell? ⟨w1.heap.size + 1, 0, none⟩ = some (.map (some w1.heap.size)) ∧ w'.cell? ⟨w2.heap.size, 0, none⟩ = some (.int .i64 p.f0) ∧ w'.cell? ⟨w2.heap.size, 1, none⟩ = some (.int .i64 p.f1)) (first | exact ⟨hX6, hX0, hX1⟩ | exact ⟨r16, r10, r11⟩ | exact ⟨r26, r20, r21⟩ | exact ⟨r36, r30, r31⟩) (refine step_append_eq rfl (.tmp 33) (.tmp 36) 35 rfl v0 (.slice (some ⟨w2.heap.size + 1, 0, none⟩) 1 1) v1 (by rfl) (by rfl) HE3.out ?_)
          all_goals
            go_wp2_with fail
            go_meet
            exact rfl
        case rest =>
          obtain rfl := hcut
          clear HE3 e1 e2 e4 r16 r10 r11 r26 r20 r21 hX6 hX0 hX1 hltU hda
          have hLY : Leads wc.drew (w1.heap.size + 2) (fun b => b < w2.heap.size ∨ b = u.heap.size + 1) w1.heap.size (mput l0 p.f0 v1) (upd (adjOf (out.take k)) p.f0 p.f1) := HL3.out.move rfl (fun _ _ _ _ => rfl)
          obtain ⟨y0, y1, u4, u5, e1, e2, e3, e4, hL5, hB5, hs5, hk5⟩ := lead_step wc.drew _ _ _ _ _ p.f1 p.f0 hLY (by show _ ≤ wc.heap.size; omega) hlen2
          have hd5 : wc.drew.heap.size = wc.heap.size := rfl
          rw [hd5] at e3 hL5 hs5 hk5
          have hda : wc.drew.alloc (.cells #[.int .i64 p.f0] 3) = (wc.alloc (.cells #[.int .i64 p.f0] 3)).drew := rfl
          rw [hda] at e2 e3
          have r16 : (wc.alloc (.cells #[.int .i64 p.f0] 3)).drew.cell? ⟨w1.heap.size + 1, 0, none⟩ = some (.map (some w1.heap.size)) := (World.cell?_alloc_lt _ _ _ (cell_lt r36)).trans r36
          have r10 : (wc.alloc (.cells #[.int .i64 p.f0] 3)).drew.cell? ⟨w2.heap.size, 0, none⟩ = some (.int .i64 p.f0) := (World.cell?_alloc_lt _ _ _ (cell_lt r30)).trans r30
          have r11 : (wc.alloc (.cells #[.int .i64 p.f0] 3)).drew.cell? ⟨w2.heap.size, 1, none⟩ = some (.int .i64 p.f1) := (World.cell?_alloc_lt _ _ _ (cell_lt r31)).trans r31
          obtain ⟨q6, q6'⟩ := hk5 (w1.heap.size + 1) (by omega) (by omega) (.inl (by omega))
          obtain ⟨q8, q8'⟩ := hk5 w2.heap.size (by omega) (by omega) (.inr (by omega))
          have r26 : u4.cell? ⟨w1.heap.size + 1, 0, none⟩ = some (.map (some w1.heap.size)) := (World.cell?_of_block (a := ⟨w1.heap.size + 1, 0, none⟩) q6).trans r36
          have r20 : u4.cell? ⟨w2.heap.size, 0, none⟩ = some (.int .i64 p.f0) := (World.cell?_of_block (a := ⟨w2.heap.size, 0, none⟩) q8).trans r30
          have r21 : u4.cell? ⟨w2.heap.size, 1, none⟩ = some (.int .i64 p.f1) := (World.cell?_of_block (a := ⟨w2.heap.size, 1, none⟩) q8).trans r31
          have r46 : u5.cell? ⟨w1.heap.size + 1, 0, none⟩ = some (.map (some w1.heap.size)) := (World.cell?_of_block (a := ⟨w1.heap.size + 1, 0, none⟩) q6').trans r36
          have r40 : u5.cell? ⟨w2.heap.size, 0, none⟩ = some (.int .i64 p.f0) := (World.cell?_of_block (a := ⟨w2.heap.size, 0, none⟩) q8').trans r30
          have r41 : u5.cell? ⟨w2.heap.size, 1, none⟩ = some (.int .i64 p.f1) := (World.cell?_of_block (a := ⟨w2.heap.size, 1, none⟩) q8').trans r31
          have HNX := Aside0.mk (HD.out.next (by rw [← HN.out]; exact hlt) HB.out.size p HPK.out (HB3.out.trans ((below_drew (Below.refl _ _)).trans hB5)) r46 hL5)
          have HE3 := Aside0.mk e3
          clear e3 q6 q6' q8 q8' hL5 hB5 hLY hk5
          go_wp2_with fail
          go_region_held3 (fun w' => w'.cell? ⟨w1.heap.size + 1, 0, none⟩ = some (.map (some w1.heap.size)) ∧ w'.cell? ⟨w2.heap.size, 0, none⟩ = some (.int .i64 p.f0) ∧ w'.cell? ⟨w2.heap.size, 1, none⟩ = some (.int .i64 p.f1)) (first | exact ⟨r36, r30, r31⟩ | exact ⟨r16, r10, r11⟩ | exact ⟨r26, r20, r21⟩ | exact ⟨r46, r40, r41⟩) (refine step_append_eq rfl (.tmp 44) (.tmp 47) 35 rfl y0 (.slice (some ⟨wc.heap.size, 0, none⟩) 1 1) y1 (by rfl) (by rfl) HE3.out ?_)
          all_goals
            clear HE3 e1 e2 e4 r16 r10 r11 r26 r20 r21 r36 r30 r31 r46 r40 r41
            go_wp2_with fail
            go_roundw
            case rel => exact ⟨k + 1, by omega, by go_num, HNX⟩
            case measure => simp [intOf]; omega
      · have hkN : out.take k = out := by
          rw [show k = out.length by rw [← HN.out]; omega]
          exact List.take_length
        have HSYM := Aside0.mk (fun j q (_ : 0 ≤ j) (_ : j < (n : Int)) (hq : q ∈ adjOf out j) => adjOf_sym out j q hq)
        obtain ⟨l0, hl0⟩ := HD.out.leads
        rw [hkN] at hl0
        have hAL : ∀ k, (adjOf out k).length ≤ 1000000 := fun k => by have := adjOf_len out k; have := HN.out; omega
        have HAL := Aside0.mk hAL
        have hb2 := HD.out.below
        have hs2 := HD.out.size
        have hbx := HD.out.box
        have hw1 := HB.out.size
        have b3 := blk_new w2 (.cells #[.int .i64 (-1)] 3)
        clear hkN HD HP0 HR HM hAL
        go_wp2_with fail
        refine (repeat1 w2.heap.size n (w2.alloc (.cells #[.int .i64 (-1)] 3)) (by rw [blk_cell b3]; rfl) hn).mono ?_
        rintro e w3 ⟨v3, rfl, hr3, hb3⟩
        obtain ⟨A3, c3, rfl⟩ := Kd.R_slice hr3
        rw [List.length_replicate] at *
        have hsz3 : (w2.alloc (.cells #[.int .i64 (-1)] 3)).heap.size = w2.heap.size + 1 := by simp
        have hB23 : Below w2.heap.size w2 w3 := (below_alloc (Below.refl _ _) _).trans (hb3.mono (by omega))
        have hge3 := hb3.size
        have hl3 : Leads w3 (w1.heap.size + 2) (fun b => b < w2.heap.size) w1.heap.size l0 (adjOf out) := hl0.move (hB23.block _ hl0.map.lt) (fun b _ hb _ => hB23.block b hb)
        have hbx3 : w3.cell? ⟨w1.heap.size + 1, 0, none⟩ = some (.map (some w1.heap.size)) := (hB23.cell (p := ⟨w1.heap.size + 1, 0, none⟩) (cell_lt hbx)).trans hbx
        have hB3 : Below w.heap.size w w3 := hb2.trans (hB23.mono (by omega))
        have HR3 := Aside0.mk hr3
        have HL3 := Aside0.mk hl3
        have HB3 := Aside0.mk hB3
        have HBX3 := Aside0.mk hbx3
        clear hr3 hl3 hB3 hB23 hb2 hl0 hbx b3 hb3 hbx3
        have hb := heap_alloc2_new w3 (.cells #[.slice A3 n c3] 35) (.cells #[.nilFunc] 66)
        have hst := fun caps => store_fn (P := Try.prog) ((w3.alloc (.cells #[.slice A3 n c3] 35)).alloc (.cells #[.nilFunc] 66)) (w3.heap.size + 1) (.func 26) caps .nilFunc (by rw [blk_cell hb]; rfl) (blk_frozen hb 0)
        clear hb
        go_wp2_with fail
        by_cases hn0 : n = 0
        · subst hn0
          go_loop [11, 57] (fun _ i => i = .int .i64 0) (fun _ _ => 0)
          case atStart => exact rfl
          case round =>
            subst hrel
            have HE := Aside0.mk (HB3.out.trans ((below_alloc (below_alloc (Below.refl w3.heap.size w3) (.cells #[.slice A3 0 c3] 35)) (.cells #[(Value.func (Fn.func 26) #[] #[.pointer (some ⟨w3.heap.size, 0, none⟩), .pointer (some ⟨w1.heap.size + 1, 0, none⟩), .pointer (some ⟨w3.heap.size + 1, 0, none⟩)])] 66)).mono (by omega)))
            go_wp2
            refine bodyPost_ret (results_tmp2 rfl _ _ _) rfl ?_
            first | exact ⟨_, rfl, HE.out, [], ⟨A3, _, rfl, by omega, rfl, by simp, fun h => by omega⟩, Labels.start _ 0⟩ | exact ⟨_, rfl, HE.out, [], ⟨A3, ⟨_, rfl⟩, rfl, by simp, fun h => by omega⟩, Labels.start _ 0⟩
        · have hcc3 := (Kd.R_reads' HR3.out).2.1
          obtain ⟨g3, cap, he, hg3, hlt3, cells, hbk⟩ := Kd.R_form HR3.out (by simp; omega)
          rw [List.length_replicate] at he
          injection he with he1 _ he2
          subst he1 he2
          have hO1 := blk_new w3 (.cells #[.slice (some ⟨g3, 0, none⟩) n c3] 35)
          have hO := blk_alloc hO1 (.cells #[(Value.func (Fn.func 26) #[] #[.pointer (some ⟨w3.heap.size, 0, none⟩), .pointer (some ⟨w1.heap.size + 1, 0, none⟩), .pointer (some ⟨w3.heap.size + 1, 0, none⟩)])] 66)
          have hV := heap_alloc2_new w3 (.cells #[.slice (some ⟨g3, 0, none⟩) n c3] 35) (.cells #[(Value.func (Fn.func 26) #[] #[.pointer (some ⟨w3.heap.size, 0, none⟩), .pointer (some ⟨w1.heap.size + 1, 0, none⟩), .pointer (some ⟨w3.heap.size + 1, 0, none⟩)])] 66)
          have hBw : Below w3.heap.size w3 ((w3.alloc (.cells #[.slice (some ⟨g3, 0, none⟩) n c3] 35)).alloc (.cells #[(Value.func (Fn.func 26) #[] #[.pointer (some ⟨w3.heap.size, 0, none⟩), .pointer (some ⟨w1.heap.size + 1, 0, none⟩), .pointer (some ⟨w3.heap.size + 1, 0, none⟩)])] 66)) := below_alloc (below_alloc (Below.refl _ _) _) _
          have hfn : ((w3.alloc (.cells #[.slice (some ⟨g3, 0, none⟩) n c3] 35)).alloc (.cells #[(Value.func (Fn.func 26) #[] #[.pointer (some ⟨w3.heap.size, 0, none⟩), .pointer (some ⟨w1.heap.size + 1, 0, none⟩), .pointer (some ⟨w3.heap.size + 1, 0, none⟩)])] 66)).cell? ⟨w3.heap.size + 1, 0, none⟩ = some (Value.func (Fn.func 26) #[] #[.pointer (some ⟨w3.heap.size, 0, none⟩), .pointer (some ⟨w1.heap.size + 1, 0, none⟩), .pointer (some ⟨w3.heap.size + 1, 0, none⟩)]) := by rw [blk_cell hV]; rfl
          have hou : ((w3.alloc (.cells #[.slice (some ⟨g3, 0, none⟩) n c3] 35)).alloc (.cells #[(Value.func (Fn.func 26) #[] #[.pointer (some ⟨w3.heap.size, 0, none⟩), .pointer (some ⟨w1.heap.size + 1, 0, none⟩), .pointer (some ⟨w3.heap.size + 1, 0, none⟩)])] 66)).cell? ⟨w3.heap.size, 0, none⟩ = some (.slice (some ⟨g3, 0, none⟩) n c3) := by rw [blk_cell hO]; rfl
          generalize hW4 : ((w3.alloc (.cells #[.slice (some ⟨g3, 0, none⟩) n c3] 35)).alloc (.cells #[(Value.func (Fn.func 26) #[] #[.pointer (some ⟨w3.heap.size, 0, none⟩), .pointer (some ⟨w1.heap.size + 1, 0, none⟩), .pointer (some ⟨w3.heap.size + 1, 0, none⟩)])] 66)) = W4 at *
          have hld : W4.cell? ⟨w1.heap.size + 1, 0, none⟩ = some (.map (some w1.heap.size)) := (hBw.cell (p := ⟨w1.heap.size + 1, 0, none⟩) (cell_lt HBX3.out)).trans HBX3.out
          have hmap : Leads W4 (w1.heap.size + 2) (fun b => b < g3) w1.heap.size l0 (adjOf out) := (HL3.out.move (hBw.block _ HL3.out.map.lt) (fun b _ hb _ => hBw.block b hb)).mono (fun b hb _ => by omega)
          have hrow : ∀ j, j < n → W4.cell? ⟨g3, j, none⟩ = some (.int .i64 ((List.replicate n (-1 : Int)).getD j 0)) ∧ W4.frozen? ⟨g3, j, none⟩ = false := fun j hj => by
            obtain ⟨r1, r2⟩ := Kd.R_celln (0 : Int) HR3.out (j : Int) (by omega) (by omega)
            rw [Int.toNat_natCast] at r1 r2
            have hv : rdOf (0 : Int) (List.replicate n (-1)) (j : Int) = (List.replicate n (-1 : Int)).getD j 0 := by
              simp [rdOf]
            rw [hv] at r1
            exact ⟨(hBw.cell (p := ⟨g3, j, none⟩) hlt3).trans r1, (hBw.frozen (p := ⟨g3, j, none⟩) hlt3).trans r2⟩
          have HG : Aside0 (VA W4 w3.heap.size (w1.heap.size + 1) (w3.heap.size + 1) g3 (w1.heap.size + 2) w1.heap.size n l0 (adjOf out) (List.replicate n (-1))) := ⟨⟨by simp, ⟨_, hcc3, hou⟩, hld, hfn, hmap, hrow⟩⟩
          have HBW := Aside0.mk (HB3.out.trans (hBw.mono (by omega)))
          have hwg : w.heap.size ≤ g3 := by omega
          clear hrow hld hmap hfn hou hBw hV hO hO1
          subst hW4
          go_loopw [11, 57] (fun _ i wr => ∃ (k : Nat) (xs : List Int), k ≤ n ∧ i = .int .i64 k ∧ Aside0 (Only (fun b _ => b = g3) ((w3.alloc (.cells #[.slice (some ⟨g3, 0, none⟩) n c3] 35)).alloc (.cells #[(Value.func (Fn.func 26) #[] #[.pointer (some ⟨w3.heap.size, 0, none⟩), .pointer (some ⟨w1.heap.size + 1, 0, none⟩), .pointer (some ⟨w3.heap.size + 1, 0, none⟩)])] 66)) wr ∧ VA wr w3.heap.size (w1.heap.size + 1) (w3.heap.size + 1) g3 (w1.heap.size + 2) w1.heap.size n l0 (adjOf out) xs ∧ Labels (adjOf out) n k xs)) (fun _ i _ => n - (intOf i).toNat)
          case atStart => exact ⟨0, _, Nat.zero_le _, rfl, ⟨Only.refl _, HG.out, Labels.start _ n⟩⟩
          case round =>
            obtain ⟨k, xs, hk, rfl, HD⟩ := hrel
            by_cases hlt : k < n
            · have hf := HD.out.2.1.fn
              unfold vfn at hf
              have HV := Aside0.mk (visit w3.heap.size (w1.heap.size + 1) (w3.heap.size + 1) g3 (w1.heap.size + 2) w1.heap.size n l0 (adjOf out) k (by omega) HIN.out hn HAL.out (by omega) (by omega) (by omega) (by omega) _ (k : Int) xs wr HD.out.2.1 (by omega) (by omega) (Nat.le_refl _))
              go_wp2_with (first | (go_at_call 26; refine HV.out.mono ?_; rintro e w5 ⟨rfl, ho5, ys, hva5, hvis5, hlab5⟩; have H5 := Aside0.mk (And.intro (HD.out.1.trans ho5) (And.intro hva5 (HD.out.2.2.next HIN.out HSYM.out hlt hvis5 hlab5))); clear ho5 hva5 hvis5 hlab5))
              go_roundw
              case rel => exact ⟨k + 1, ys, by omega, by go_num, H5⟩
              case measure => simp [intOf]; omega
            · obtain ⟨cc, hcf, hf⟩ := HD.out.2.1.out
              have hkn : k = n := by omega
              have HE := Aside0.mk (HBW.out.trans (HD.out.1.below (B := w.heap.size) HBW.out.size (fun b i h => by omega)))
              have HF := Aside0.mk (show ReadsInt wr .i64 (some ⟨g3, 0, none⟩) n xs ∧ Labels (adjOf out) n n xs from ⟨⟨HD.out.2.1.len, by omega, fun _ => ⟨_, rfl, fun j hj => by rw [add_at, Nat.zero_add]; exact (HD.out.2.1.row j hj).1⟩⟩, by have := HD.out.2.2; rwa [hkn] at this⟩)
              clear hkn
              go_wp2
              refine bodyPost_ret (results_tmp2 rfl _ _ _) rfl ?_
              exact ⟨_, rfl, HE.out, xs, ⟨_, _, rfl, hcf, HF.out.1⟩, HF.out.2⟩

end Go.Proofs.Ytghdeoeajbnfkaa.WSl
