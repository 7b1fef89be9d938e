/- ledger.readEntry, at every line. -/
import Derived.Test.YtafolceicpkhoaaDoorEntFault
import Derived.StillTailTactics
namespace Go.Proofs.YtafolceicpkhoaaDoor.Pol
set_option linter.unusedVariables false
set_option linter.unusedSimpArgs false
open Go.RowKit Go.Proofs.YtafolceicpkhoaaDoorW.PrintWords Go.Proofs.YtafolceicpkhoaaDoorW.PrintLast Go.Proofs.YtafolceicpkhoaaDoorW.PrintMore Go.Proofs.YtafolceicpkhoaaDoor.Bld

theorem idxFrom_any (x : ByteArray) : ∀ zs : List ByteArray, (∀ i, Lib.idxFromS zs x i = -1) ∨ ∃ k, k < zs.length ∧ ∀ i, Lib.idxFromS zs x i = ((i + k : Nat) : Int)
  | [] => .inl fun _ => rfl
  | z :: zs => by
    by_cases h : z = x
    · exact .inr ⟨0, by simp, fun i => by rw [Lib.idxFromS, if_pos h]; simp⟩
    · rcases idxFrom_any x zs with h1 | ⟨k, hk, h1⟩
      · exact .inl fun i => by rw [Lib.idxFromS, if_neg h, h1]
      · exact .inr ⟨k + 1, by simp; omega, fun i => by rw [Lib.idxFromS, if_neg h, h1]; congr 1; omega⟩
theorem kinds11 (a : ByteArray) : ∃ K : Int, 0 ≤ K ∧ K ≤ 11 ∧ Lib.idxOfS elevens a = K - 1 ∧ ((1 ≤ K ∧ Lib.idxOfS (ByteArray.empty :: elevens) a = K) ∨ (K = 0 ∧ Lib.idxOfS (ByteArray.empty :: elevens) a < 1)) := by
  unfold Lib.idxOfS
  by_cases h0 : ByteArray.empty = a
  · subst h0
    refine ⟨0, by omega, by omega, by decide +kernel, .inr ⟨rfl, by decide +kernel⟩⟩
  · rw [Lib.idxFromS, if_neg h0]
    rcases idxFrom_any a elevens with h1 | ⟨k, hk, h1⟩
    · exact ⟨0, by omega, by omega, by rw [h1]; rfl, .inr ⟨rfl, by rw [h1]; omega⟩⟩
    · have hk' : k < 11 := hk
      exact ⟨(k : Int) + 1, by omega, by omega, by rw [h1]; push_cast; omega, .inl ⟨by omega, by rw [h1]; push_cast; omega⟩⟩
theorem index11 (a : ByteArray) (K : Int) (hK : Lib.idxOfS elevens a = K - 1) (b : Nat) (w : World) (hc : ∀ j, j < 11 → w.cell? ⟨b, j, none⟩ = some (.string (ba (ewds.getD j [])))) : Calls Tryd.prog 23 #[.slice (some ⟨b, 0, none⟩) 11 11, .string a] w fun e w' => e = .returned (.int .i64 (K - 1)) ∧ w' = w := by
  have h := Tryd.slices_Index_string b 0 11 11 elevens a w (by decide) (by omega) (fun i hi => by
    have hi' : i < 11 := by simpa [elevens, ewds] using hi
    rw [Nat.zero_add, hc i hi']
    have key : ∀ j : Fin 11, elevens.getD j.val ByteArray.empty = ba (ewds.getD j.val []) := fun j => by
      have hj : j.val < ewds.length := j.isLt
      simp [elevens, List.getD_eq_getElem?_getD, List.getElem?_map, List.getElem?_eq_getElem hj]
    rw [key ⟨i, hi'⟩])
  have e : elevens.take 11 = elevens := rfl
  rw [e, hK] at h
  exact h

abbrev zero6 : Array Value := #[.int .i64 0, .int .i64 0, .int .i64 0, .int .i64 0, .int .i64 0, .int .i64 0]
/-- In the midst of readEntry: the pieces' block and the result's. -/
structure RMid (w : World) (P : List ByteArray) (u : World) : Prop where
  below : Below w.heap.size w u
  list : u.heap[w.heap.size + 1]? = some (.cells (P.map Value.string).toArray 9 (0, 0))
  res : u.heap[w.heap.size]? = some (.cells zero6 31 (0, 0))
theorem RMid.later {w u u' : World} {P : List ByteArray} (h : RMid w P u) (hb : Below u.heap.size u u') : RMid w P u' :=
  ⟨below_then h.below h.below.size hb, (hb.block _ (blk_in h.list)).trans h.list, (hb.block _ (blk_in h.res)).trans h.res⟩
theorem RMid.piece {w u : World} {P : List ByteArray} (h : RMid w P u) (j : Nat) (x : ByteArray) (hx : P[j]? = some x) : u.cell? ⟨w.heap.size + 1, j, none⟩ = some (.string x) := by
  rw [blk_cell h.list, List.getElem?_toArray, List.getElem?_map, hx]; rfl
theorem RMid.zero {w u : World} {P : List ByteArray} (h : RMid w P u) (i : Nat) (hi : i < 6) : u.cell? ⟨w.heap.size, i, none⟩ = some (.int .i64 0) := by
  rw [blk_cell h.res]
  have : i = 0 ∨ i = 1 ∨ i = 2 ∨ i = 3 ∨ i = 4 ∨ i = 5 := by omega
  rcases this with rfl | rfl | rfl | rfl | rfl | rfl <;> rfl
theorem putSix {u : World} {g : Nat} {t : TypeId} (h : u.heap[g]? = some (.cells zero6 t (0, 0))) (v0 v1 v2 v3 v4 v5 : Value) : ((((((u.setCell ⟨g, 0, none⟩ v0).setCell ⟨g, 1, none⟩ v1).setCell ⟨g, 2, none⟩ v2).setCell ⟨g, 3, none⟩ v3).setCell ⟨g, 4, none⟩ v4).setCell ⟨g, 5, none⟩ v5).heap[g]? = some (.cells #[v0, v1, v2, v3, v4, v5] t (0, 0)) := by
  have e := blk_set (blk_set (blk_set (blk_set (blk_set (blk_set h 0 v0) 1 v1) 2 v2) 3 v3) 4 v4) 5 v5
  simpa using e
theorem putSixBelow {w u : World} (h : Below w.heap.size w u) (v0 v1 v2 v3 v4 v5 : Value) : Below w.heap.size w ((((((u.setCell ⟨w.heap.size, 0, none⟩ v0).setCell ⟨w.heap.size, 1, none⟩ v1).setCell ⟨w.heap.size, 2, none⟩ v2).setCell ⟨w.heap.size, 3, none⟩ v3).setCell ⟨w.heap.size, 4, none⟩ v4).setCell ⟨w.heap.size, 5, none⟩ v5) :=
  (((((h.setCell (p := ⟨w.heap.size, 0, none⟩) (Nat.le_refl _) v0).setCell (p := ⟨w.heap.size, 1, none⟩) (Nat.le_refl _) v1).setCell (p := ⟨w.heap.size, 2, none⟩) (Nat.le_refl _) v2).setCell (p := ⟨w.heap.size, 3, none⟩) (Nat.le_refl _) v3).setCell (p := ⟨w.heap.size, 4, none⟩) (Nat.le_refl _) v4).setCell (p := ⟨w.heap.size, 5, none⟩) (Nat.le_refl _) v5
theorem cellsSix {u : World} {g : Nat} {t : TypeId} {v0 v1 v2 v3 v4 v5 : Value} (h : u.heap[g]? = some (.cells #[v0, v1, v2, v3, v4, v5] t (0, 0))) : u.cell? ⟨g, 0, none⟩ = some v0 ∧ u.cell? ⟨g, 1, none⟩ = some v1 ∧ u.cell? ⟨g, 2, none⟩ = some v2 ∧ u.cell? ⟨g, 3, none⟩ = some v3 ∧ u.cell? ⟨g, 4, none⟩ = some v4 ∧ u.cell? ⟨g, 5, none⟩ = some v5 := by
  refine ⟨?_, ?_, ?_, ?_, ?_, ?_⟩ <;> rw [blk_cell h] <;> rfl

def ReadSays (s : ByteArray) (w : World) (e : Ending) (w' : World) : Prop := ∃ (x : Ent) (ok : Bool), e = .returned (.tuple #[.agg #[.int .i64 x.k, .int .i64 x.o, .int .i64 x.t, .int .i64 x.a, .int .i64 x.l, .int .i64 x.u], .bool ok]) ∧ Below w.heap.size w w' ∧
  ((ok = true ∧ LineIs s.data.toList x) ∨ (ok = false ∧ ∀ y, ¬ LineIs s.data.toList y))
def zeroE : Ent := ⟨0, 0, 0, 0, 0, 0⟩

theorem infoI : (Tryd.prog.info? 3).map (fun i => (i.zero, i.size, i.bytes)) = some (some (.int .i64 0), 1, 8) := by kernel_rfl
theorem iface_neq (w : World) (t : TypeId) (v : Value) : (binOp .neq 43 (.iface t v) .nilIface).run Tryd.prog w = .ok (.bool true) w := by simp [go_sem]
theorem R_cells {w : World} {base : Nat} {v : Value} {xs : List Int} (h : Kd.R (Kd.int .i64) 3 w base (fun _ => True) v xs) (h0 : 0 < xs.length) : ∃ g c, v = .slice (some ⟨g, 0, none⟩) xs.length c ∧ ∀ j m, xs[j]? = some m → w.cell? ⟨g, j, none⟩ = some (.int .i64 m) := by
  obtain ⟨A, c, rfl, hc, hC⟩ := Kd.R_reads h
  have hr := Kd.reads_of_C (d := (0 : Int)) hC
  obtain ⟨_, inner, hown, _⟩ := h
  obtain ⟨g, cap, hv, _, _⟩ := hown.form h0
  injection hv with hA
  subst hA
  refine ⟨g, c, rfl, fun j m hj => ?_⟩
  have hjl := (List.getElem?_eq_some_iff.1 hj).1
  obtain ⟨ad, e, hcell⟩ := hr.2.2 h0
  injection e with e
  subst e
  have := hcell j hjl
  rw [add_plain] at this
  rw [this, List.getD_eq_getElem?_getD, hj]; rfl

set_option maxHeartbeats 32000000 in
set_option maxRecDepth 100000 in
theorem readEntry (s : ByteArray) (hs : s.size ≤ 500000) (w : World) (hT : Tabs w) (hE : Errs w) (hM : MaxL w) :
    Calls Tryd.prog 21 #[.string s] w fun e w' => ReadSays s w e w' := by
  have hPe : piecesOf s.data.toList = Lib.splitB ⟨#[32]⟩ 0 (Lib.countB s ⟨#[32]⟩) s := by unfold piecesOf; rw [ba_of]
  obtain ⟨hPs, hPl, hPc⟩ := pieces_facts 32 s hs
  rw [← hPe] at hPs hPl
  have hsp := splitW 32 s hs _ hPe.symm
  have hLine : ∀ y, LineIs s.data.toList y → ∃ a p0 p1 p2 p3 p4, piecesOf s.data.toList = [a, p0, p1, p2, p3, p4] ∧ Lib.idxOfS elevens a = y.k - 1 ∧ 1 ≤ y.k ∧ Can p0.data.toList y.o ∧ Can p1.data.toList y.t ∧ Can p2.data.toList y.a ∧ Can p3.data.toList y.l ∧ Can p4.data.toList y.u := fun y h => h
  have hLine2 : ∀ a p0 p1 p2 p3 p4 (y : Ent), piecesOf s.data.toList = [a, p0, p1, p2, p3, p4] → Lib.idxOfS elevens a = y.k - 1 → 1 ≤ y.k → Can p0.data.toList y.o → Can p1.data.toList y.t → Can p2.data.toList y.a → Can p3.data.toList y.l → Can p4.data.toList y.u → LineIs s.data.toList y := fun a p0 p1 p2 p3 p4 y h1 h2 h3 h4 h5 h6 h7 h8 => ⟨a, p0, p1, p2, p3, p4, h1, h2, h3, h4, h5, h6, h7, h8⟩
  have hl1 : 1 ≤ (piecesOf s.data.toList).length := by omega
  have hl2 : (piecesOf s.data.toList).length ≤ 500001 := by omega
  generalize hPP : piecesOf s.data.toList = P at *
  obtain ⟨a, L, rfl⟩ : ∃ a L, P = a :: L := by
    cases P with
    | nil => simp at hl1
    | cons a L => exact ⟨a, L, rfl⟩
  obtain ⟨K, hK0, hK11, hK, hK9⟩ := kinds11 a
  clear hK9
  have HPs := Lib.hid (show ∀ x ∈ a :: L, x.size ≤ 500000 from fun x hx => by have := hPs x hx; omega)
  have HSp := Lib.hid hsp
  have HT := Aside0.mk hT
  have HE := Aside0.mk hE
  have HM := Aside0.mk hM
  have HK := Lib.hid hK
  have HL1 := Lib.hid hLine
  have HL2 := Lib.hid hLine2
  clear hPe hPs hPl hPc hsp hLine hLine2 hT hE hM hK hPP
  go_enter Tryd.func21, Tryd.ntmps21
  go_wp2_with fail
  refine (HSp.out _ (HM.out.below (below_alloc (Below.refl _ _) _))).mono ?_
  rintro e w1 ⟨rfl, hw1⟩
  have HM0 : Aside0 (RMid w (a :: L) w1) := ⟨by
    rw [hw1]
    refine ⟨below_alloc (below_alloc (Below.refl _ _) _) _, ?_, ?_⟩
    · have := blk_new (w.alloc (.cells zero6 31)) (.cells ((a :: L).map Value.string).toArray 9)
      simpa using this
    · rw [Below.heap_alloc _ _ _ (by simp)]; exact blk_new w _⟩
  have hs0 : (w.alloc (.cells zero6 31)).heap.size = w.heap.size + 1 := by simp
  rw [hs0]
  clear hw1 hs0
  have hcell := HM0.out.piece 0 a rfl
  generalize hn : (a :: L).length = n at *
  have hn1 : 0 < n := by omega
  have hn2 : (0 : Int) < (n : Int) := by omega
  have HN := Lib.hid hn
  clear hn
  go_wp2_with fail
  go_cut [5] (fun z9 wx => z9 = .int .i64 K ∧ Aside0 (RMid w (a :: L) wx))
  case first =>
    have hw2 : IntKind.i64.wrap K = K := IntWalk.i64_in _ (by omega)
    have HMa := Aside0.mk (HM0.out.later (below_drew (Below.refl _ _)))
    go_region_with ((first | (go_at_call 13; refine (fieldsEx _ (HT.out.below HMa.out.below)).mono ?_; rintro e u' ⟨bF, rfl, hF, hbF⟩; have HMb := Aside0.mk (HMa.out.later hbF); have hK9 := HMb.out.piece 0 a rfl; have HF := Lib.hid hF; clear hF hbF) | (go_at_call 23; refine (index11 a K HK.out _ _ HF.out).mono ?_; rintro e u3 ⟨rfl, rfl⟩)))
    all_goals
      go_wp2_with fail
      go_meet
      exact ⟨rfl, HMb⟩
  case rest =>
    obtain ⟨rfl, HMb⟩ := hcut
    clear hcell
    have h3 : n ≠ 6 ∨ (n = 6 ∧ K < 1) ∨ (n = 6 ∧ 1 ≤ K) := by omega
    rcases h3 with h6 | ⟨rfl, hk1⟩ | ⟨rfl, hk1⟩
    · have hn6 : ¬ (n : Int) = 6 := by omega
      have hbad : ∀ y, ¬ LineIs s.data.toList y := by
        intro y hy
        obtain ⟨a', p0, p1, p2, p3, p4, e, _⟩ := HL1.out y hy
        have := HN.out
        rw [e] at this
        exact h6 this.symm
      have HBad := Lib.hid hbad
      clear hbad h6
      have e9 := putSix HMb.out.res (.int .i64 0) (.int .i64 0) (.int .i64 0) (.int .i64 0) (.int .i64 0) (.int .i64 0)
      obtain ⟨hv0, hv1, hv2, hv3, hv4, hv5⟩ := cellsSix e9
      have HBW := Aside0.mk (putSixBelow HMb.out.below (.int .i64 0) (.int .i64 0) (.int .i64 0) (.int .i64 0) (.int .i64 0) (.int .i64 0))
      have z0 := HMb.out.zero 0 (by omega)
      have z1 := HMb.out.zero 1 (by omega)
      have z2 := HMb.out.zero 2 (by omega)
      have z3 := HMb.out.zero 3 (by omega)
      have z4 := HMb.out.zero 4 (by omega)
      have z5 := HMb.out.zero 5 (by omega)
      have zf : ∀ i, (wc).frozen? ⟨w.heap.size, i, none⟩ = false := fun i => freeOf HMb.out.res i
      clear e9
      go_wp2
      (try simp only [Exit.inBlock, Exit.then])
      refine bodyPost_ret (v := .tuple #[.agg #[.int .i64 0, .int .i64 0, .int .i64 0, .int .i64 0, .int .i64 0, .int .i64 0], .bool false]) ?_ rfl ⟨zeroE, false, rfl, HBW.out, .inr ⟨rfl, HBad.out⟩⟩
      rw [results_cell_tmp rfl]
      go_simp
    · have hbad : ∀ y, ¬ LineIs s.data.toList y := by
        intro y hy
        obtain ⟨a', p0, p1, p2, p3, p4, e, h1, h2, _⟩ := HL1.out y hy
        have e1 := (List.cons.inj e).1
        rw [← e1, HK.out] at h1
        omega
      have HBad := Lib.hid hbad
      clear hbad
      have e9 := putSix HMb.out.res (.int .i64 0) (.int .i64 0) (.int .i64 0) (.int .i64 0) (.int .i64 0) (.int .i64 0)
      obtain ⟨hv0, hv1, hv2, hv3, hv4, hv5⟩ := cellsSix e9
      have HBW := Aside0.mk (putSixBelow HMb.out.below (.int .i64 0) (.int .i64 0) (.int .i64 0) (.int .i64 0) (.int .i64 0) (.int .i64 0))
      have z0 := HMb.out.zero 0 (by omega)
      have z1 := HMb.out.zero 1 (by omega)
      have z2 := HMb.out.zero 2 (by omega)
      have z3 := HMb.out.zero 3 (by omega)
      have z4 := HMb.out.zero 4 (by omega)
      have z5 := HMb.out.zero 5 (by omega)
      have zf : ∀ i, (wc).frozen? ⟨w.heap.size, i, none⟩ = false := fun i => freeOf HMb.out.res i
      clear e9
      go_wp2
      (try simp only [Exit.inBlock, Exit.then])
      refine bodyPost_ret (v := .tuple #[.agg #[.int .i64 0, .int .i64 0, .int .i64 0, .int .i64 0, .int .i64 0, .int .i64 0], .bool false]) ?_ rfl ⟨zeroE, false, rfl, HBW.out, .inr ⟨rfl, HBad.out⟩⟩
      rw [results_cell_tmp rfl]
      go_simp
    · obtain ⟨p0, p1, p2, p3, p4, hL⟩ : ∃ p0 p1 p2 p3 p4, L = [p0, p1, p2, p3, p4] := by
        have h := HN.out
        match L, h with
        | [p0, p1, p2, p3, p4], _ => exact ⟨p0, p1, p2, p3, p4, rfl⟩
      have HPQ := HPs.out
      rw [hL] at HMb HPQ
      have HL3 := Lib.hid (HL2.out a p0 p1 p2 p3 p4)
      have HL4 := Lib.hid (fun y hy => HL1.out y hy)
      have HLE := Lib.hid hL
      have HPZ := Lib.hid HPQ
      clear hL HPQ
      go_wp2_with fail
      go_loopw [6, 8, 9, 10, 30] (fun v _ _ _ i ws => ∃ (q : Nat) (vs : List Int), q ≤ 5 ∧ i = .int .i64 q ∧ Hid (vs.length = q) ∧ Hid (∀ (j : Nat) (x : ByteArray) (m : Int), [p0, p1, p2, p3, p4][j]? = some x → vs[j]? = some m → Can x.data.toList m) ∧ Aside0 (Below wc.heap.size wc ws) ∧ Aside0 (Kd.R (Kd.int .i64) 3 ws wc.heap.size (fun _ => True) v vs)) (fun _ _ _ _ i _ => 5 - (intOf i).toNat)
      case atStart => exact ⟨0, [], by omega, rfl, Lib.hid rfl, Lib.hid (by simp), ⟨Below.refl _ _⟩, ⟨Kd.R_nil _ _ _ _ _⟩⟩
      case round =>
        obtain ⟨q, vs, hq, rfl, HV, HC, HB, HR⟩ := hrel
        have HMs := Aside0.mk (HMb.out.later HB.out)
        by_cases hq5 : q < 5
        · obtain ⟨x, hx⟩ : ∃ x, [p0, p1, p2, p3, p4][q]? = some x := ⟨_, List.getElem?_eq_getElem (by show q < 5; exact hq5)⟩
          have hcx := HMs.out.piece (1 + q) x (by rw [Nat.add_comm]; exact hx)
          have hxs : x.size ≤ 500000 := HPZ.out x (List.mem_cons_of_mem _ (List.mem_of_getElem? hx))
          have hbadOf : (∀ v, ¬ Can x.data.toList v) → ∀ y, ¬ LineIs s.data.toList y := by
            intro hno y hy
            obtain ⟨a', r0, r1, r2, r3, r4, e, _, _, h1, h2, h3, h4, h5⟩ := HL4.out y hy
            rw [HLE.out] at e
            simp only [List.cons.injEq, and_true] at e
            obtain ⟨_, rfl, rfl, rfl, rfl, rfl⟩ := e
            have : q = 0 ∨ q = 1 ∨ q = 2 ∨ q = 3 ∨ q = 4 := by omega
            rcases this with rfl | rfl | rfl | rfl | rfl <;> (have ex := Option.some.inj hx; subst ex)
            · exact hno _ h1
            · exact hno _ h2
            · exact hno _ h3
            · exact hno _ h4
            · exact hno _ h5
          have HX := Lib.hid hx
          have HBO := Lib.hid hbadOf
          clear hx hbadOf
          rcases atoiAny x (by omega) wr (HE.out.below HMs.out.below) with ⟨m, h1, h2⟩ | ⟨h1, h2⟩
          · have hbm := Lib.atoiAll_bounds h1
            have HA := Aside0.mk h2
            have HA1 := Lib.hid h1
            clear h1 h2
            by_cases hi : itB m = x
            · have hi2 : Lib.itoa m = x.data.toList := by rw [← hi]; simp [itB]
              have HI := Aside0.mk (fun u' hu => itoaAny m hbm.1 hbm.2 u' hu)
              rw [hi] at HI
              have HI2 := Lib.hid hi2
              clear hi hi2
              by_cases ht : (tp x.data.toList).length ≤ 9
              · have ht9 : decide ((9 : Int) < ((tpB x).size : Int)) = false := decide_eq_false (by rw [tpB_size]; omega)
                have hcan : Can x.data.toList m := ⟨HI2.out, ht⟩
                have HC2 : Hid (∀ (j : Nat) (y : ByteArray) (z : Int), [p0, p1, p2, p3, p4][j]? = some y → (vs ++ [m])[j]? = some z → Can y.data.toList z) := Lib.hid (by
                  intro j y z hy hz
                  by_cases hj : j < vs.length
                  · rw [List.getElem?_append_left hj] at hz
                    exact HC.out j y z hy hz
                  · rw [List.getElem?_append_right (by omega)] at hz
                    have hj0 : j - vs.length = 0 := by
                      by_cases h : j - vs.length = 0
                      · exact h
                      · rw [List.getElem?_eq_none (by simp; omega)] at hz; cases hz
                    rw [hj0] at hz
                    have ez : m = z := Option.some.inj hz
                    have hjq : j = q := by have := HV.out; omega
                    rw [hjq, HX.out] at hy
                    rw [← ez, ← Option.some.inj hy]
                    exact hcan)
                have HV2 : Hid ((vs ++ [m]).length = q + 1) := Lib.hid (by rw [List.length_append, HV.out]; rfl)
                clear ht hcan
                go_wp2_with fail
                refine HA.out.mono ?_
                rintro e w2 ⟨rfl, hb2⟩
                have HB2 := Aside0.mk (HB.out.trans (hb2.mono HB.out.size))
                have HR2 := Aside0.mk (Kd.R_below HR.out hb2)
                clear hb2 hcx
                go_wp2_with fail
                refine (HI.out w2 (HT.out.below (HMb.out.later HB2.out).below)).mono ?_
                rintro e w3 ⟨rfl, hb3⟩
                have HB3 := Aside0.mk (HB2.out.trans (hb3.mono HB2.out.size))
                have HR3 := Aside0.mk (Kd.R_below HR2.out hb3)
                clear hb3
                go_wp2_with fail
                refine (trimAny x _).mono ?_
                rintro e w4 ⟨rfl, rfl⟩
                go_wp2_with (first | ((with_reducible refine gate_builtin (b := .append) (xs := #[.tmp 54, .tmp 56]) rfl ?_); at_builtin; refine Kd.R_append (Kd.int .i64) (w0 := wc) wc.heap.size rfl (.tmp 54) (.tmp 56) 48 3 (.int .i64 0) 8 rfl Tryd.underlying48 infoI rfl (by decide) (by omega) _ vs m [.int .i64 m] (fun _ => True) (fun _ => False) rfl rfl ?aP (fun _ hk => hk.elim) ?aF ?aO ?aB ?aS ?aL ?_; (case aP => exact rfl); (case aB => exact (by repeat (first | (with_reducible first | exact HB3.out | apply below_alloc | apply pw_below_drewN | apply below_drew) | exact HB3.out))); (case aF => exact (fun _ _ => trivial)); (case aO => exact (by (with_reducible repeat (first | apply Kd.R_alloc | apply Kd.R_drewN | apply Kd.R_drew)); exact HR3.out)); (case aS => exact (below_size (by repeat (first | (with_reducible first | exact HB3.out | apply below_alloc | apply pw_below_drewN | apply below_drew) | exact HB3.out)))); (case aL => have := HV.out; omega); intro v1 w9 ho hb hg hat; have HO1 := Aside0.mk ho; have HB1 := Aside0.mk hb; clear ho hb hg hat))
                go_wp2
                go_roundw
                case rel => exact ⟨q + 1, vs ++ [m], by omega, by go_num, HV2, HC2, HB1, HO1⟩
                case measure => simp [intOf]; omega
              · have ht9 : decide ((9 : Int) < ((tpB x).size : Int)) = true := decide_eq_true (by rw [tpB_size]; omega)
                have HBad := Lib.hid (HBO.out (fun v hv => by
                  have e := can_atoi hv
                  rw [HA1.out] at e
                  injection e with e
                  exact ht hv.2))
                clear ht
                go_wp2_with fail
                refine HA.out.mono ?_
                rintro e w2 ⟨rfl, hb2⟩
                have HM2 := Aside0.mk (HMs.out.later hb2)
                clear hb2 hcx
                go_wp2_with fail
                refine (HI.out w2 (HT.out.below HM2.out.below)).mono ?_
                rintro e w3 ⟨rfl, hb3⟩
                have HM3 := Aside0.mk (HM2.out.later hb3)
                clear hb3
                go_wp2_with fail
                refine (trimAny x _).mono ?_
                rintro e w4 ⟨rfl, rfl⟩
                have e9 := putSix HM3.out.res (.int .i64 0) (.int .i64 0) (.int .i64 0) (.int .i64 0) (.int .i64 0) (.int .i64 0)
                obtain ⟨hv0, hv1, hv2, hv3, hv4, hv5⟩ := cellsSix e9
                have HBW := Aside0.mk (putSixBelow HM3.out.below (.int .i64 0) (.int .i64 0) (.int .i64 0) (.int .i64 0) (.int .i64 0) (.int .i64 0))
                have z0 := HM3.out.zero 0 (by omega)
                have z1 := HM3.out.zero 1 (by omega)
                have z2 := HM3.out.zero 2 (by omega)
                have z3 := HM3.out.zero 3 (by omega)
                have z4 := HM3.out.zero 4 (by omega)
                have z5 := HM3.out.zero 5 (by omega)
                have zf : ∀ i, (w3).frozen? ⟨w.heap.size, i, none⟩ = false := fun i => freeOf HM3.out.res i
                clear e9
                go_wp2
                (try simp only [Exit.inBlock, Exit.then])
                refine bodyPost_ret (v := .tuple #[.agg #[.int .i64 0, .int .i64 0, .int .i64 0, .int .i64 0, .int .i64 0, .int .i64 0], .bool false]) ?_ rfl ⟨zeroE, false, rfl, HBW.out, .inr ⟨rfl, HBad.out⟩⟩
                rw [results_cell_tmp rfl]
                go_simp
            · have hne : ((itB m).toList == x.toList) = false := by
                rw [beq_eq_false_iff_ne]
                intro e
                apply hi
                rw [ByteArray.toList_eq, ByteArray.toList_eq] at e
                apply ByteArray.ext
                apply Array.toList_inj.1
                exact e
              have HBad := Lib.hid (HBO.out (fun v hv => by
                have e := can_atoi hv
                rw [HA1.out] at e
                injection e with e
                subst e
                apply hi
                apply ByteArray.ext
                apply Array.toList_inj.1
                simpa [itB] using hv.1))
              clear hi
              go_wp2_with fail
              refine HA.out.mono ?_
              rintro e w2 ⟨rfl, hb2⟩
              have HM2 := Aside0.mk (HMs.out.later hb2)
              clear hb2 hcx
              go_wp2_with fail
              refine (itoaAny m hbm.1 hbm.2 w2 (HT.out.below HM2.out.below)).mono ?_
              rintro e w3 ⟨rfl, hb3⟩
              have HM3 := Aside0.mk (HM2.out.later hb3)
              clear hb3
              have e9 := putSix HM3.out.res (.int .i64 0) (.int .i64 0) (.int .i64 0) (.int .i64 0) (.int .i64 0) (.int .i64 0)
              obtain ⟨hv0, hv1, hv2, hv3, hv4, hv5⟩ := cellsSix e9
              have HBW := Aside0.mk (putSixBelow HM3.out.below (.int .i64 0) (.int .i64 0) (.int .i64 0) (.int .i64 0) (.int .i64 0) (.int .i64 0))
              have z0 := HM3.out.zero 0 (by omega)
              have z1 := HM3.out.zero 1 (by omega)
              have z2 := HM3.out.zero 2 (by omega)
              have z3 := HM3.out.zero 3 (by omega)
              have z4 := HM3.out.zero 4 (by omega)
              have z5 := HM3.out.zero 5 (by omega)
              have zf : ∀ i, (w3).frozen? ⟨w.heap.size, i, none⟩ = false := fun i => freeOf HM3.out.res i
              clear e9
              go_wp2
              (try simp only [Exit.inBlock, Exit.then])
              refine bodyPost_ret (v := .tuple #[.agg #[.int .i64 0, .int .i64 0, .int .i64 0, .int .i64 0, .int .i64 0, .int .i64 0], .bool false]) ?_ rfl ⟨zeroE, false, rfl, HBW.out, .inr ⟨rfl, HBad.out⟩⟩
              rw [results_cell_tmp rfl]
              go_simp
          · have HBad := Lib.hid (HBO.out (fun v hv => h1 v (can_atoi hv)))
            have HA := Aside0.mk h2
            have hif := iface_neq
            clear h1 h2
            go_wp2_with fail
            refine HA.out.mono ?_
            rintro e w3 ⟨n9, t9, p9, rfl, hb2⟩
            have HM3 := Aside0.mk (HMs.out.later hb2)
            clear hb2 hcx
            have e9 := putSix HM3.out.res (.int .i64 0) (.int .i64 0) (.int .i64 0) (.int .i64 0) (.int .i64 0) (.int .i64 0)
            obtain ⟨hv0, hv1, hv2, hv3, hv4, hv5⟩ := cellsSix e9
            have HBW := Aside0.mk (putSixBelow HM3.out.below (.int .i64 0) (.int .i64 0) (.int .i64 0) (.int .i64 0) (.int .i64 0) (.int .i64 0))
            have z0 := HM3.out.zero 0 (by omega)
            have z1 := HM3.out.zero 1 (by omega)
            have z2 := HM3.out.zero 2 (by omega)
            have z3 := HM3.out.zero 3 (by omega)
            have z4 := HM3.out.zero 4 (by omega)
            have z5 := HM3.out.zero 5 (by omega)
            have zf : ∀ i, (w3).frozen? ⟨w.heap.size, i, none⟩ = false := fun i => freeOf HM3.out.res i
            clear e9
            go_wp2
            (try simp only [Exit.inBlock, Exit.then])
            refine bodyPost_ret (v := .tuple #[.agg #[.int .i64 0, .int .i64 0, .int .i64 0, .int .i64 0, .int .i64 0, .int .i64 0], .bool false]) ?_ rfl ⟨zeroE, false, rfl, HBW.out, .inr ⟨rfl, HBad.out⟩⟩
            rw [results_cell_tmp rfl]
            go_simp
        · obtain rfl : q = 5 := by omega
          obtain ⟨m0, m1, m2, m3, m4, hvs⟩ : ∃ m0 m1 m2 m3 m4, vs = [m0, m1, m2, m3, m4] := by
            have h := HV.out
            match vs, h with
            | [m0, m1, m2, m3, m4], _ => exact ⟨m0, m1, m2, m3, m4, rfl⟩
          subst hvs
          have hLI : LineIs s.data.toList ⟨K, m0, m1, m2, m3, m4⟩ := HL3.out ⟨K, m0, m1, m2, m3, m4⟩ (by rw [HLE.out]) HK.out hk1 (HC.out 0 _ _ rfl rfl) (HC.out 1 _ _ rfl rfl) (HC.out 2 _ _ rfl rfl) (HC.out 3 _ _ rfl rfl) (HC.out 4 _ _ rfl rfl)
          have HLI := Aside0.mk hLI
          obtain ⟨g, c, rfl, hcs⟩ := R_cells HR.out (by simp)
          have d0 := hcs 0 _ rfl
          have d1 := hcs 1 _ rfl
          have d2 := hcs 2 _ rfl
          have d3 := hcs 3 _ rfl
          have d4 := hcs 4 _ rfl
          have z0 := HMs.out.zero 0 (by omega)
          have z1 := HMs.out.zero 1 (by omega)
          have z2 := HMs.out.zero 2 (by omega)
          have z3 := HMs.out.zero 3 (by omega)
          have z4 := HMs.out.zero 4 (by omega)
          have z5 := HMs.out.zero 5 (by omega)
          have zf : ∀ i, wr.frozen? ⟨w.heap.size, i, none⟩ = false := fun i => freeOf HMs.out.res i
          clear hcs hLI HC HV HL1 HL2 HL3 HL4 HPs HPZ
          have hlen5 : ([m0, m1, m2, m3, m4] : List Int).length = 5 := rfl
          rw [hlen5]
          clear hlen5
          have e9 := putSix (u := wr.drew) HMs.out.res (.int .i64 K) (.int .i64 m0) (.int .i64 m1) (.int .i64 m2) (.int .i64 m3) (.int .i64 m4)
          have b9 := putSixBelow (u := wr.drew) (below_drew HMs.out.below) (.int .i64 K) (.int .i64 m0) (.int .i64 m1) (.int .i64 m2) (.int .i64 m3) (.int .i64 m4)
          have E9 := Aside0.mk e9
          have B9 := Aside0.mk b9
          clear e9 b9
          go_wp2_with fail
          go_cut [3] (fun s3 wx => s3 = .bool true ∧ Aside0 (Below w.heap.size w wx ∧ wx.heap[w.heap.size]? = some (.cells #[.int .i64 K, .int .i64 m0, .int .i64 m1, .int .i64 m2, .int .i64 m3, .int .i64 m4] 31 (0, 0))))
          case first =>
            go_still_tail 17, (by kernel_rfl)
            change wpList _ _ _ _ _ wr.drew
            have zz0 : wr.drew.cell? ⟨w.heap.size, 0, none⟩ = some (.int .i64 0) := z0
            have zz1 : wr.drew.cell? ⟨w.heap.size, 1, none⟩ = some (.int .i64 0) := z1
            have zz2 : wr.drew.cell? ⟨w.heap.size, 2, none⟩ = some (.int .i64 0) := z2
            have zz3 : wr.drew.cell? ⟨w.heap.size, 3, none⟩ = some (.int .i64 0) := z3
            have zz4 : wr.drew.cell? ⟨w.heap.size, 4, none⟩ = some (.int .i64 0) := z4
            have zz5 : wr.drew.cell? ⟨w.heap.size, 5, none⟩ = some (.int .i64 0) := z5
            have zzf : ∀ i, wr.drew.frozen? ⟨w.heap.size, i, none⟩ = false := zf
            generalize wr.drew = w2 at *
            go_wp2_with fail
            go_meet
            exact ⟨rfl, ⟨B9.out, E9.out⟩⟩
          case rest =>
            obtain ⟨rfl, HF9⟩ := hcut
            obtain ⟨hv0, hv1, hv2, hv3, hv4, hv5⟩ := cellsSix HF9.out.2
            go_wp2
            (try simp only [Exit.inBlock, Exit.then])
            refine bodyPost_ret (v := .tuple #[.agg #[.int .i64 K, .int .i64 m0, .int .i64 m1, .int .i64 m2, .int .i64 m3, .int .i64 m4], .bool true]) ?_ rfl ⟨⟨K, m0, m1, m2, m3, m4⟩, true, rfl, HF9.out.1, .inl ⟨rfl, HLI.out⟩⟩
            rw [results_cell_tmp rfl]
            go_simp
end Go.Proofs.YtafolceicpkhoaaDoor.Pol
