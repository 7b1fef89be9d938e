/- Arenas: marked, Release. -/
import Derived.Test.YticbjaclnneaoaaArMark
namespace Go.Proofs.Yticbjaclnneaoaa.Arena
set_option linter.unusedVariables false
open Go.RowKit Go.Proofs.YticbjaclnneaoaaW.PrintWords Go.Proofs.YticbjaclnneaoaaW.PrintLast Go.Proofs.YticbjaclnneaoaaW.PrintMore Go.Proofs.Yticbjaclnneaoaa.Book Go.Proofs.Yticbjaclnneaoaa.Oct Go.Proofs.Yticbjaclnneaoaa.Pure
set_option linter.unusedSimpArgs false

theorem mrkAt {w : World} {A : Option Addr} {n cap : Nat} {ms : List Mrk} (h : w.ownsRow 0 76 3 (.slice A n cap) n (rowsOf Mrk.cells ms)) {k : Nat} {x : Mrk} (hx : ms[k]? = some x) :
    ∃ g, A = some ⟨g, 0, none⟩ ∧ w.cell? ⟨g, k * 3, none⟩ = some (.int .i64 x.no) ∧ w.cell? ⟨g, k * 3 + 1, none⟩ = some (.int .i64 x.many) ∧ w.cell? ⟨g, k * 3 + 2, none⟩ = some (.int .i64 x.tend) := by
  obtain ⟨g, c1, e, hc⟩ := own_at mrk3 (by decide) h hx
  injection e with e1 e2 e3
  subst e1
  exact ⟨g, rfl, hc 0 _ rfl, hc 1 _ rfl, hc 2 _ rfl⟩

set_option maxHeartbeats 1000000 in
set_option maxRecDepth 100000 in
theorem isMark {w : World} {nb : Nat} {no a b c : Int} (hn : w.cell? ⟨nb, 0, none⟩ = some (.int .i64 no)) :
    Calls Try.prog 48 #[.agg #[.int .i64 a, .int .i64 b, .int .i64 c], .pointer (some ⟨nb, 0, none⟩)] w fun e w' => e = .returned (.bool (a == no)) ∧ Below w.heap.size w w' := by
  have k := old_cell hn (below_alloc (Below.refl _ _) (.cells #[.int .i64 a, .int .i64 b, .int .i64 c] 76))
  clear hn
  go_enter Try.func48, Try.ntmps48
  go_wp2
  go_ret
  exact ⟨rfl, below_alloc (Below.refl _ _) _⟩

set_option maxHeartbeats 1000000 in
set_option maxRecDepth 100000 in
theorem markIdx {w : World} {A : Option Addr} {N cap nb i : Nat} {ms : List Mrk} {x : Mrk} (ho : w.ownsRow 0 76 3 (.slice A N cap) N (rowsOf Mrk.cells ms)) (hN : N = ms.length) (hl : N ≤ 100) (hp : (ms.map (·.no)).Pairwise (· < ·)) (hi : ms[i]? = some x) (hn : w.cell? ⟨nb, 0, none⟩ = some (.int .i64 x.no)) :
    Calls Try.prog 47 #[.slice A N cap, .func (.func 48) #[] #[.pointer (some ⟨nb, 0, none⟩)]] w fun e w' => e = .returned (.int .i64 i) ∧ Below w.heap.size w w' := by
  have HO := Aside0.mk ho
  have HI := Lib.hid hi
  have HP := Aside0.mk hp
  have HN := Lib.hid hN
  have hil := (List.getElem?_eq_some_iff.1 hi).1
  rw [← hN] at hil
  have HC := Lib.hid hn
  clear ho hi hp hN hn
  go_enter Try.func47, Try.ntmps47
  go_wp2_with fail
  go_loopw [5, 8] (fun _ u wr => ∃ n : Nat, n ≤ i ∧ u = .int .i64 n ∧ Aside0 (Below w.heap.size w wr)) (fun _ u _ => N - (intOf u).toNat)
  case atStart => exact ⟨0, Nat.zero_le _, rfl, ⟨Below.refl _ _⟩⟩
  case round =>
    obtain ⟨n, hn, rfl, HB⟩ := hrel
    have hlt : n < N := by omega
    obtain ⟨y, hy⟩ : ∃ y, ms[n]? = some y := ⟨_, List.getElem?_eq_getElem (by rw [← HN.out]; exact hlt)⟩
    obtain ⟨g, rfl, c0, c1, c2⟩ := mrkAt (own_frame HO.out (fun j hj => HB.out.block j (own_lt' HO.out hj))) hy
    have HM := Aside0.mk (fun (u : World) (hu : Below w.heap.size w u) => isMark (a := y.no) (b := y.many) (c := y.tend) (old_cell HC.out hu))
    by_cases he : n = i
    · subst he
      obtain rfl : x = y := Option.some.inj (HI.out.symm.trans hy)
      have hb : (x.no == x.no) = true := beq_self_eq_true _
      clear hy
      go_wp2_with (go_at_call 48; refine (HM.out _ HB.out).mono ?_; rintro e w1 ⟨rfl, hb1⟩; rw [hb]; have HB1 := Aside0.mk hb1; clear hb1)
      go_ret
      exact ⟨rfl, below_then HB.out HB.out.size HB1.out⟩
    · have hne : (y.no == x.no) = false := beq_eq_false_iff_ne.2 (by
        have h1 := HP.out
        obtain ⟨a1, rfl⟩ := List.getElem?_eq_some_iff.1 HI.out
        obtain ⟨a2, rfl⟩ := List.getElem?_eq_some_iff.1 hy
        have := (List.pairwise_iff_getElem.1 h1) n i (by simpa using a2) (by simpa using a1) (by omega)
        simp only [List.getElem_map] at this
        omega)
      clear hy
      go_wp2_with (go_at_call 48; refine (HM.out _ HB.out).mono ?_; rintro e w1 ⟨rfl, hb1⟩; rw [hne]; have HB1 := Aside0.mk hb1; clear hb1)
      go_roundw
      case rel => exact ⟨n + 1, by omega, by go_num, ⟨below_then HB.out HB.out.size HB1.out⟩⟩
      case measure => simp [intOf]; omega

set_option maxHeartbeats 1000000 in
set_option maxRecDepth 100000 in
theorem markedA {w : World} {aa p : Nat} {o k s m size : Int} {S : ArS} (hA : ArenaAt w aa p o k s m size S) (hG : Good S) {i : Nat} {x : Mrk} (hi : S.ms[i]? = some x) :
    Calls Try.prog 38 #[.pointer (some ⟨aa, 0, none⟩), .int .i64 x.no] w fun e w' => e = .returned (.int .i64 i) ∧ Below w.heap.size w w' := by
  have hb : Below w.heap.size w (w.alloc (.cells #[.int .i64 x.no] 3)) := below_alloc (Below.refl _ _) _
  obtain ⟨h0, h1, h2, h3, h4, h5, h6, h7, h8, h9, h10, h11, h12⟩ := arena_cells (hA.below hb).head
  obtain ⟨A, cap, hmv, hcap⟩ := own_shape hA.ownM
  have ho := (hA.below hb).ownM
  rw [hmv] at h9 ho
  have hmf : ∀ (fn : Fn) (first cap : Array Value) (w : World), (Instr.makeFunc fn first cap).run Try.prog w = .ok (.func fn first cap) w := fun _ _ _ _ => rfl
  have hc : (w.alloc (.cells #[.int .i64 x.no] 3)).cell? ⟨w.heap.size, 0, none⟩ = some (.int .i64 x.no) := by rw [blk_cell (blk_new _ _)]; rfl
  have HI := Aside0.mk (markIdx ho rfl hG.fewM hG.mnos hi hc)
  clear hA hG h0 h1 h2 h3 h4 h5 h6 h7 h8 h10 h11 h12 hmv ho hi hc hb
  go_enter Try.func38, Try.ntmps38
  go_wp2_with (go_at_call 47; refine (HI.out).mono ?_; rintro e w1 ⟨rfl, hb1⟩)
  go_ret
  exact ⟨rfl, below_then (below_alloc (Below.refl _ _) _) (by simp) hb1⟩
end Go.Proofs.Yticbjaclnneaoaa.Arena

namespace Go.Proofs.Yticbjaclnneaoaa.Arena
set_option linter.unusedVariables false
open Go.RowKit Go.Proofs.YticbjaclnneaoaaW.PrintWords Go.Proofs.YticbjaclnneaoaaW.PrintLast Go.Proofs.YticbjaclnneaoaaW.PrintMore Go.Proofs.Yticbjaclnneaoaa.Book Go.Proofs.Yticbjaclnneaoaa.Oct Go.Proofs.Yticbjaclnneaoaa.Pure
set_option linter.unusedSimpArgs false

theorem foot_cut {aa : Nat} {S S' : ArS} (h1 : S'.cv.ownBlock = S.cv.ownBlock) (h2 : S'.rv.ownBlock = S.rv.ownBlock) (h3 : S'.mv.ownBlock = S.mv.ownBlock) (h4 : S'.cs.map (·.g) = S.cs.map (·.g)) (j : Nat) : AFoot aa S' j → AFoot aa S j := by
  unfold AFoot
  rw [h1, h2, h3, h4]
  exact id
section
variable {w w1 : World} {aa p : Nat} {o k s m size : Int} {S S1 : ArS}
theorem ArenaAt.cutR (h : ArenaAt w aa p o k s m size S) {A : Option Addr} {cap n : Nat} (hv : S.rv = .slice A S.rs.length cap) (hn : n ≤ S.rs.length) : ArenaAt (w.setCell ⟨aa, 8, none⟩ (.slice A n cap)) aa p o k s m size { S with rv := .slice A n cap, rs := S.rs.take n } := by
  have hR := h.ownR
  rw [hv] at hR
  have hc := own_cut reg4 hR n hn rfl
  have hne : some aa ≠ (Value.slice A n cap).ownBlock := by
    have := h.neR
    rw [hv] at this
    cases A <;> exact this
  refine h.setF 8 _ ?_ (h.setC_ _ _) ?_ (h.setM_ _ _) rfl
  · have := blk_set h.head 8 (.slice A n cap)
    simpa [arenaCells] using this
  · have := own_setCell hc (p := ⟨aa, 8, none⟩) hne (.slice A n cap)
    simp only [List.length_take, Nat.min_eq_left hn]
    exact this
theorem ArenaAt.cutM (h : ArenaAt w aa p o k s m size S) {A : Option Addr} {cap n : Nat} (hv : S.mv = .slice A S.ms.length cap) (hn : n ≤ S.ms.length) : ArenaAt (w.setCell ⟨aa, 9, none⟩ (.slice A n cap)) aa p o k s m size { S with mv := .slice A n cap, ms := S.ms.take n } := by
  have hM := h.ownM
  rw [hv] at hM
  have hc := own_cut mrk3 hM n hn rfl
  have hne : some aa ≠ (Value.slice A n cap).ownBlock := by
    have := h.neM
    rw [hv] at this
    cases A <;> exact this
  refine h.setF 9 _ ?_ (h.setC_ _ _) (h.setR_ _ _) ?_ rfl
  · have := blk_set h.head 9 (.slice A n cap)
    simpa [arenaCells] using this
  · have := own_setCell hc (p := ⟨aa, 9, none⟩) hne (.slice A n cap)
    simp only [List.length_take, Nat.min_eq_left hn]
    exact this
end
/-- A store of what is there. -/
theorem set_same {w : World} {g i : Nat} {cs : Array Value} {t : TypeId} {v : Value} (h : w.heap[g]? = some (.cells cs t)) (hv : w.cell? ⟨g, i, none⟩ = some v) (j : Nat) : (w.setCell ⟨g, i, none⟩ v).heap[j]? = w.heap[j]? := by
  by_cases hj : j = g
  · subst hj
    rw [blk_cell h i] at hv
    rw [blk_set h i v, h]
    congr 2
    obtain ⟨h1, h2⟩ := Array.getElem?_eq_some_iff.1 hv
    apply Array.ext
    · simp
    · intro k h3 h4
      by_cases hk : i = k
      · subst hk
        simp [h2]
      · rw [Array.getElem_setIfInBounds_ne _ hk]
  · exact Below.heap_setCell w ⟨g, i, none⟩ v j hj
theorem Good.cut {S : ArS} (h : Good S) {i : Nat} {x : Mrk} (hx : S.ms[i]? = some x) (rv mv : Value) : Good { S with rv := rv, rs := S.rs.take x.many, mv := mv, ms := S.ms.take i } where
  regs := fun y hy => h.regs y (List.mem_of_mem_take hy)
  few := h.few
  fewR := by have := h.fewR; simp only [List.length_take]; omega
  fewM := by have := h.fewM; simp only [List.length_take]; omega
  room := h.room
  nos := by
    simp only [List.map_take]
    exact h.nos.sublist (List.take_sublist _ _)
  nol := fun y hy => h.nol y (List.mem_of_mem_take hy)
  mnos := by
    simp only [List.map_take]
    exact h.mnos.sublist (List.take_sublist _ _)
  mnol := fun y hy => h.mnol y (List.mem_of_mem_take hy)
  many := fun y hy => by
    have h1 := h.many x (List.mem_of_getElem? hx)
    obtain ⟨j, hj, rfl⟩ := List.mem_iff_getElem.1 hy
    obtain ⟨hi, rfl⟩ := List.getElem?_eq_some_iff.1 hx
    simp only [List.length_take, List.getElem_take] at hj ⊢
    have := (List.pairwise_iff_getElem.1 h.mono) j i (by omega) hi (by omega)
    omega
  mono := h.mono.sublist (List.take_sublist _ _)
  peak := h.peak

theorem cutR_step {w w1 : World} {aa p : Nat} {k s m size : Int} {S S1 : ArS} {q q1 : Parts} {b1 : BookS} {A : Option Addr} {N cap n : Nat} (h : Step w w1 aa p k s m size S q S1 b1 q1) (hN : N = S1.rs.length) (hv : S1.rv = .slice A N cap) (hn : n ≤ N) : Step w (w1.setCell ⟨aa, 8, none⟩ (.slice A n cap)) aa p k s m size S q { S1 with rv := .slice A n cap, rs := S1.rs.take n } b1 q1 := by
  subst hN
  exact h.arena_only (h.arena.cutR hv hn) ((Upd.refl (AFoot aa S1) w1).setCell ⟨aa, 8, none⟩ (.inl (.inl rfl)) _) (fun j hj => .inl (foot_cut (S := S1) (S' := { S1 with rv := .slice A n cap, rs := S1.rs.take n }) rfl (by rw [hv]; cases A <;> rfl) rfl rfl j hj))
theorem cutM_step {w w1 : World} {aa p : Nat} {k s m size : Int} {S S1 : ArS} {q q1 : Parts} {b1 : BookS} {A : Option Addr} {N cap n : Nat} (h : Step w w1 aa p k s m size S q S1 b1 q1) (hN : N = S1.ms.length) (hv : S1.mv = .slice A N cap) (hn : n ≤ N) : Step w (w1.setCell ⟨aa, 9, none⟩ (.slice A n cap)) aa p k s m size S q { S1 with mv := .slice A n cap, ms := S1.ms.take n } b1 q1 := by
  subst hN
  exact h.arena_only (h.arena.cutM hv hn) ((Upd.refl (AFoot aa S1) w1).setCell ⟨aa, 9, none⟩ (.inl (.inl rfl)) _) (fun j hj => .inl (foot_cut (S := S1) (S' := { S1 with mv := .slice A n cap, ms := S1.ms.take n }) rfl rfl (by rw [hv]; cases A <;> rfl) rfl j hj))
theorem same_step {w w1 w2 : World} {aa p : Nat} {k s m size : Int} {S S1 : ArS} {q q1 : Parts} {b1 : BookS} (h : Step w w1 aa p k s m size S q S1 b1 q1) (hs : ∀ j : Nat, w2.heap[j]? = w1.heap[j]?) (hu : Upd (AFoot aa S1) w1 w2) : Step w w2 aa p k s m size S q S1 b1 q1 :=
  h.arena_only (h.arena.frame (w' := w2) (fun j _ => hs j)) hu (fun j hj => .inl hj)

set_option maxHeartbeats 4000000 in
set_option maxRecDepth 100000 in
theorem releaseA {w : World} {aa p : Nat} {k s m size : Int} {S : ArS} {b : BookS} {q : Parts} (hA : ArenaAt w aa p 1 k s m size S) (hG : Good S) (hB : BookAt w p b q) {i : Nat} {x : Mrk} (hi : S.ms[i]? = some x) (htend : ∀ y, (S.rs.take x.many).getLast? = some y → y.tt = x.tend) :
    Calls Try.prog 18 #[.pointer (some ⟨aa, 0, none⟩), .int .i64 x.no] w fun e w' =>
      ∃ gone rv' mv', e = .returned (.tuple #[.int .i64 gone, .int .i64 0]) ∧ Step w w' aa p k s m size S q { S with rv := rv', rs := S.rs.take x.many, mv := mv', ms := S.ms.take i } b q := by
  have HA := Aside0.mk hA
  have HB := Aside0.mk hB
  have HG := Aside0.mk hG
  have HI := Lib.hid hi
  have HT := Aside0.mk htend
  have HMk := Aside0.mk (markedA hA hG hi)
  obtain ⟨h0, h1, h2, h3, h4, h5, h6, h7, h8, h9, h10, h11, h12⟩ := arena_cells hA.head
  obtain ⟨A, cap, hmv, hcap⟩ := own_shape hA.ownM
  obtain ⟨R, rcap, hrv, hrcap⟩ := own_shape hA.ownR
  have hfewM := hG.fewM
  have hfewR := hG.fewR
  obtain ⟨NM, hNM⟩ : ∃ N, N = S.ms.length := ⟨_, rfl⟩
  obtain ⟨NR, hNR⟩ : ∃ N, N = S.rs.length := ⟨_, rfl⟩
  have hil := (List.getElem?_eq_some_iff.1 hi).1
  have hmany := hG.many x (List.mem_of_getElem? hi)
  rw [← hNM] at hfewM hcap hil
  rw [← hNR] at hfewR hrcap hmany
  have HNM := Lib.hid hNM
  have HNR := Lib.hid hNR
  have HMV : Hid (S.mv = Value.slice A NM cap) := Lib.hid (by rw [hmv, hNM])
  have HRV : Hid (S.rv = Value.slice R NR rcap) := Lib.hid (by rw [hrv, hNR])
  obtain ⟨mg, hmg, _, _, _⟩ := mrkAt (by have := hA.ownM; rw [hmv] at this; exact this) hi
  subst hmg
  have HK : Aside0 (∀ u, Below w.heap.size w u → u.cell? ⟨aa, 9, none⟩ = some (.slice (some ⟨mg, 0, none⟩) NM cap) ∧ u.cell? ⟨aa, 8, none⟩ = some (.slice R NR rcap) ∧ u.cell? ⟨mg, i * 3, none⟩ = some (.int .i64 x.no) ∧ u.cell? ⟨mg, i * 3 + 1, none⟩ = some (.int .i64 x.many) ∧ u.cell? ⟨mg, i * 3 + 2, none⟩ = some (.int .i64 x.tend) ∧ u.frozen? ⟨aa, 8, none⟩ = false ∧ aa < u.heap.size) := ⟨fun u hu => by
    have hA2 := HA.out.below hu
    obtain ⟨_, _, _, _, _, _, _, _, a8, a9, _⟩ := arena_cells hA2.head
    have ho := hA2.ownM
    rw [HMV.out, ← HNM.out] at ho
    obtain ⟨g', e, c0, c1, c2⟩ := mrkAt ho HI.out
    injection e with e
    injection e with e
    subst e
    exact ⟨by rw [a9, HMV.out], by rw [a8, HRV.out], c0, c1, c2, blk_frozen hA2.head 8, blk_lt hA2.head⟩⟩
  obtain ⟨ir, hir, rz0, rz1, rz2⟩ := info_parts infoR
  obtain ⟨im, him, mz0, mz1, mz2⟩ := info_parts infoM
  have hs8 := fun W => cut_to (P := Try.prog) 70 82 .i64 Try.underlying70 hir R NR rcap x.many (by omega) (by omega) hrcap W
  have hs9 := fun W => cut_to (P := Try.prog) 71 76 .i64 Try.underlying71 him (some ⟨mg, 0, none⟩) NM cap i (by omega) (by omega) hcap W
  simp only [Int.toNat_natCast] at hs8 hs9
  obtain ⟨many, hmy⟩ : ∃ many, many = x.many := ⟨_, rfl⟩
  obtain ⟨tend, hte⟩ : ∃ tend, tend = x.tend := ⟨_, rfl⟩
  rw [← hmy] at hs8 HK hmany HT
  rw [← hte] at HK HT
  have HMY := Lib.hid hmy
  rw [← hmy]
  clear hA hB hG hi htend h0 h1 h2 h3 h4 h5 h7 h8 h9 h10 h11 h12 hmv hrv hNM hNR ir hir rz0 rz1 rz2 im him mz0 mz1 mz2 hmy hte hcap hrcap
  go_enter Try.func18, Try.ntmps18
  go_upto_region 7 with (go_at_call 38; refine (HMk.out).mono ?_; rintro e w1 ⟨rfl, hb1⟩; obtain ⟨k9, k8, c0, c1, c2, kf8, kla⟩ := HK.out w1 hb1; have HB1 := Aside0.mk hb1; clear hb1)
  have HB5 : Aside0 (Below w.heap.size w (w1.alloc (.cells #[.int .i64 x.no, .int .i64 many, .int .i64 tend] 76))) := ⟨below_alloc HB1.out _⟩
  have HM5 := Aside0.mk (blk_new w1 (.cells #[.int .i64 x.no, .int .i64 many, .int .i64 tend] 76))
  have hmb := HB1.out.size
  clear k9 k8 c0 c1 c2 kf8 kla HMk h6
  generalize w1.alloc (.cells #[.int .i64 x.no, .int .i64 many, .int .i64 tend] 76) = w5 at *
  generalize w1.heap.size = mb at *
  obtain ⟨k9, k8, c0, c1, c2, kf8, kla⟩ := HK.out w5 HB5.out
  have n1 : w5.cell? ⟨mb, 1, none⟩ = some (.int .i64 many) := by rw [blk_cell HM5.out]; rfl
  have n2 : w5.cell? ⟨mb, 2, none⟩ = some (.int .i64 tend) := by rw [blk_cell HM5.out]; rfl
  have hgone : IntKind.i64.wrap ((NR : Int) - (many : Int)) = (NR : Int) - (many : Int) := IntWalk.i64_in _ ⟨by omega, by omega⟩
  go_quiet ((fail))
  go_upto_region 8 with fail
  have HMBA : Hid (mb ≠ aa) := Lib.hid (by have := blk_lt HA.out.head; omega)
  have HQ5 := Aside0.mk ((Step.refl HA.out HB.out).below HB5.out)
  clear c0 c1 c2
  go_cut [] (fun wx => Aside0 (Step w wx aa p k s m size S q { S with rv := .slice R many rcap, rs := S.rs.take many } b q ∧ wx.heap[mb]? = some (.cells #[.int .i64 x.no, .int .i64 many, .int .i64 tend] 76)))
  case first =>
    go_region
    all_goals
      go_wp2_with fail
      go_meet
      refine ⟨cutR_step (HQ5.out.below (pw_below_drewN (Below.refl _ _) _)) HNR.out HRV.out hmany, blk_far ?_ HMBA.out _⟩
      exact HM5.out
  case rest =>
    clear k8 k9 n1 n2 kf8 kla HQ5 HM5 HB5 hs8
    generalize wc = w7 at *
    have n1 : w7.cell? ⟨mb, 1, none⟩ = some (.int .i64 many) := by rw [blk_cell hcut.out.2]; rfl
    have n2 : w7.cell? ⟨mb, 2, none⟩ = some (.int .i64 tend) := by rw [blk_cell hcut.out.2]; rfl
    have HK9 : Aside0 (∀ u S8, Step w u aa p k s m size S q S8 b q → S8.mv = S.mv → u.cell? ⟨aa, 9, none⟩ = some (.slice (some ⟨mg, 0, none⟩) NM cap) ∧ u.frozen? ⟨aa, 9, none⟩ = false ∧ aa < u.heap.size) := ⟨fun u S8 hu he => by
      obtain ⟨_, _, _, _, _, _, _, _, _, a9, _⟩ := arena_cells hu.arena.head
      exact ⟨by rw [a9, he, HMV.out], blk_frozen hu.arena.head 9, blk_lt hu.arena.head⟩⟩
    obtain ⟨k9, kf9, kla⟩ := HK9.out w7 _ hcut.out.1 rfl
    rcases Nat.eq_zero_or_pos many with hm0 | hpos
    · have HL := Aside0.mk (lastNil hcut.out.1.arena (by simp [hm0]))
      go_wp2_with (go_at_call 28; refine (HL.out).mono ?_; rintro e w8 ⟨rfl, rfl⟩)
      go_ret2
      exact ⟨_, _, _, rfl, cutM_step hcut.out.1 HNM.out HMV.out (by omega)⟩
    · obtain ⟨j, rfl⟩ : ∃ j, many = j + 1 := ⟨many - 1, by omega⟩
      have hlen : (S.rs.take (j + 1)).length = j + 1 := by rw [List.length_take, ← HNR.out]; omega
      obtain ⟨y, hy, hgl⟩ := last_at hlen
      have hyt := HT.out y hgl
      have hoR := hcut.out.1.arena.ownR
      simp only [hlen] at hoR
      obtain ⟨g, rfl, _, _, _, c3⟩ := regAt hoR hy
      rw [hyt] at c3
      have HL := Aside0.mk (lastSome hcut.out.1.arena (n := j) (by omega) rfl)
      obtain ⟨cur, hcur⟩ := own_typed hcut.out.1.arena.ownR g rfl
      have k3 : w7.cell? ⟨g, j * 4 + 1 + 2, none⟩ = _ := c3
      have kf3 : w7.frozen? ⟨g, j * 4 + 1 + 2, none⟩ = false := blk_frozen hcur _
      have hga : g ≠ aa := fun e => hcut.out.1.arena.neR (by rw [← e]; rfl)
      have HCUR := Aside0.mk hcur
      have hgne : (aa == g) = false := beq_eq_false_iff_ne.2 (fun e => hga e.symm)
      have HHH : Aside0 (∀ mm, Step w ((w7.drewN mm).setCell ⟨g, j * 4 + 1 + 2, none⟩ (.int .i64 tend)) aa p k s m size S q { S with rv := .slice (some ⟨g, 0, none⟩) (j + 1) rcap, rs := S.rs.take (j + 1) } b q) := ⟨fun mm => same_step hcut.out.1 (fun i => set_same (w := w7.drewN mm) hcur c3 i) ((Upd.of_below (pw_below_drewN (Below.refl _ _) mm)).setCell ⟨g, j * 4 + 1 + 2, none⟩ (.inl (.inr (.inr (.inl rfl)))) _)⟩
      clear hcur hoR hy hgl hyt hlen c3
      go_upto_region 12 with (go_at_call 28; refine (HL.out).mono ?_; rintro e w8 ⟨rfl, m8, rfl⟩)
      have HQ10 := Aside0.mk (HHH.out m8)
      clear k9 kf9 kla k3 kf3 n1 n2 hcut HHH HL HCUR
      generalize (w7.drewN m8).setCell ⟨g, j * 4 + 1 + 2, none⟩ (.int .i64 tend) = w10 at *
      obtain ⟨k9, kf9, kla⟩ := HK9.out w10 _ HQ10.out rfl
      go_wp2_with fail
      go_ret2
      exact ⟨_, _, _, rfl, cutM_step HQ10.out HNM.out HMV.out (by omega)⟩
end Go.Proofs.Yticbjaclnneaoaa.Arena
