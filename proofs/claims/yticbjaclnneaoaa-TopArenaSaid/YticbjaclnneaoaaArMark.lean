/- Arenas: Mark. -/
import Derived.Test.YticbjaclnneaoaaArTook
import Derived.Deep.RegionHeld3
import Derived.Deep.RegionWith
namespace Go.Proofs.Yticbjaclnneaoaa.Arena
set_option linter.unusedVariables false
open Go.RowKit Go.Proofs.YticbjaclnneaoaaW.PrintWords Go.Proofs.YticbjaclnneaoaaW.PrintLast Go.Proofs.YticbjaclnneaoaaW.PrintMore Go.Proofs.Yticbjaclnneaoaa.Book Go.Proofs.Yticbjaclnneaoaa.Oct Go.Proofs.Yticbjaclnneaoaa.Pure
set_option linter.unusedSimpArgs false

theorem Step.young {w w1 w2 : World} {aa p : Nat} {k s m size : Int} {S S1 : ArS} {q q1 : Parts} {b1 : BookS} {T : Nat → Prop} (h : Step w w1 aa p k s m size S q S1 b1 q1) (hu : Upd T w1 w2) (hT : ∀ j, T j → w.heap.size ≤ j ∧ ¬ AFoot aa S1 j ∧ ¬ q1.Foot p j) : Step w w2 aa p k s m size S q S1 b1 q1 :=
  ⟨h.arena.upd hu (fun j hj hT' => (hT j hT').2.1 hj), h.book.frame (fun j hj => hu.block j (h.book.lt hj) (fun hT' => (hT j hT').2.2 hj)), h.upd.then hu (fun j hj => .inr (hT j hj).1), h.footA, h.footB⟩
theorem infoM : (Try.prog.info? 76).map (fun i => (i.zero, i.size, i.bytes)) = some (some (.agg #[.int .i64 0, .int .i64 0, .int .i64 0]), 3, 24) := by kernel_rfl
/-- Where the last region ends. -/
def tendOf (rs : List Reg) : Nat := match rs.getLast? with
  | none => 0
  | some x => x.tt
theorem mark_stays {w w2 : World} {aa p : Nat} {k s m size : Int} {S S2 : ArS} {q q2 : Parts} {b b2 : BookS} (h : Step w w2 aa p k s m size S q S2 b2 q2) (hA : ArenaAt w aa p 1 k s m size S) (hB : BookAt w p b q) {j : Nat} {cur : Array Value} (hc : w.heap[j]? = some (.cells cur 76)) (hj : some j ≠ S.mv.ownBlock) : w2.heap[j]? = some (.cells cur 76) := by
  refine (h.upd.block _ (blk_lt hc) ?_).trans hc
  rintro (h1 | h1)
  · rcases h1 with h1 | h1 | h1 | h1 | h1
    · rw [h1, hA.head] at hc
      injection hc with hc
      injection hc with _ hc _
      exact absurd hc (by decide)
    · exact own_ne hA.ownC hc (by decide) h1
    · exact own_ne hA.ownR hc (by decide) h1
    · exact hj h1
    · obtain ⟨c, hcm, rfl⟩ := List.mem_map.1 h1
      have := hA.rows c hcm
      unfold Row at this
      rw [this] at hc
      injection hc with hc
      injection hc with _ hc _
      exact absurd hc (by decide)
  · exact not_foot hB hc (by decide) (by decide) (by decide) (by decide) h1
/-- Behind the count of the last mark. -/
theorem countM_step {w w1 : World} {aa p : Nat} {k s m size : Int} {S S1 : ArS} {q q1 : Parts} {b1 : BookS} (h : Step w w1 aa p k s m size S q S1 b1 q1) (n : Nat) : Step w (w1.setCell ⟨aa, 11, none⟩ (.int .i64 n)) aa p k s m size S q { S1 with lm := n } b1 q1 :=
  h.arena_only (h.arena.setLm n) ((Upd.refl (AFoot aa S1) w1).setCell ⟨aa, 11, none⟩ (.inl (.inl rfl)) _) (fun j hj => .inl (foot_same rfl rfl rfl rfl j hj))
/-- A new mark. -/
theorem mark_step {w w1 W w2 : World} {aa p : Nat} {k s m size : Int} {S S1 : ArS} {q q1 : Parts} {b1 : BookS} {A : Option Addr} {N cap g cap1 many tend : Nat} {no : Int} (h : Step w w1 aa p k s m size S q S1 b1 q1) (hN : N = S1.ms.length) (hmv : S1.mv = .slice A N cap) (hW : Below w1.heap.size w1 W)
    (ho : w2.ownsRow 0 76 3 (.slice (some ⟨g, 0, none⟩) (N + 1) cap1) (N + 1) (rowsOf Mrk.cells S1.ms ++ [.int .i64 no, .int .i64 many, .int .i64 tend])) (hg : W.grownBy w2 (Value.slice A N cap).ownBlock) (hf : some g = (Value.slice A N cap).ownBlock ∨ W.heap.size ≤ g) :
    Step w (w2.setCell ⟨aa, 9, none⟩ (.slice (some ⟨g, 0, none⟩) (N + 1) cap1)) aa p k s m size S q { S1 with mv := .slice (some ⟨g, 0, none⟩) (N + 1) cap1, ms := S1.ms ++ [⟨no, many, tend⟩] } b1 q1 := by
  subst hN
  rw [← hmv] at hg hf
  obtain ⟨a1, a2, a3⟩ := h.arena.putM (x := ⟨no, many, tend⟩) hW (by simpa [Mrk.cells] using ho) hg hf
  exact h.arena_only a1 a2 a3
theorem Good.mark {S : ArS} (h : Good S) (mv : Value) (tend : Nat) (hl : S.ms.length < 100) : Good { S with mv := mv, lm := S.lm + 1, ms := S.ms ++ [⟨((S.lm + 1 : Nat) : Int), S.rs.length, tend⟩] } where
  regs := h.regs
  few := h.few
  fewR := h.fewR
  fewM := by simp only [List.length_append, List.length_singleton]; omega
  room := h.room
  nos := h.nos
  nol := h.nol
  mnos := by
    simp only [List.map_append, List.map_cons, List.map_nil]
    rw [List.pairwise_append]
    refine ⟨h.mnos, List.pairwise_singleton _ _, fun x hx y hy => ?_⟩
    obtain ⟨r, hr, rfl⟩ := List.mem_map.1 hx
    have := (h.mnol r hr).2
    rw [List.mem_singleton.1 hy]
    omega
  mnol := fun x hx => by
    rcases List.mem_append.1 hx with hx | hx
    · have := h.mnol x hx
      simp only
      omega
    · rw [List.mem_singleton.1 hx]
      simp only
      omega
  many := fun x hx => by
    rcases List.mem_append.1 hx with hx | hx
    · exact h.many x hx
    · rw [List.mem_singleton.1 hx]
      exact Nat.le_refl _
  mono := by
    simp only
    rw [List.pairwise_append]
    refine ⟨h.mono, List.pairwise_singleton _ _, fun x hx y hy => ?_⟩
    rw [List.mem_singleton.1 hy]
    exact h.many x hx
  peak := h.peak

set_option maxHeartbeats 4000000 in
set_option maxRecDepth 100000 in
theorem markA {w : World} {aa p : Nat} {k s m size : Int} {S : ArS} {b : BookS} {q : Parts} (hA : ArenaAt w aa p 1 k s m size S) (hG : Good S) (hB : BookAt w p b q) (hlm : S.lm ≤ 4611686018427387904) :
    Calls Try.prog 9 #[.pointer (some ⟨aa, 0, none⟩)] w fun e w' =>
      (e = .returned (.tuple #[.int .i64 0, .int .i64 4]) ∧ Step w w' aa p k s m size S q S b q) ∨
      (e = .returned (.tuple #[.int .i64 ((S.lm + 1 : Nat) : Int), .int .i64 0]) ∧ S.ms.length < 100 ∧ ∃ mv', Step w w' aa p k s m size S q { S with mv := mv', lm := S.lm + 1, ms := S.ms ++ [⟨((S.lm + 1 : Nat) : Int), S.rs.length, tendOf S.rs⟩] } b q) := by
  have HA := Aside0.mk hA
  have HB := Aside0.mk hB
  have HG := Aside0.mk hG
  obtain ⟨h0, h1, h2, h3, h4, h5, h6, h7, h8, h9, h10, h11, h12⟩ := arena_cells hA.head
  obtain ⟨A, cap, hmv, hcap⟩ := own_shape hA.ownM
  rw [hmv] at h9
  have hfewM := hG.fewM
  obtain ⟨N, hN⟩ : ∃ N, N = S.ms.length := ⟨_, rfl⟩
  rw [← hN] at h9 hfewM hcap
  have HN := Lib.hid hN
  have HMV := Lib.hid hmv
  clear h0 h1 h2 h3 h4 h5 h7 h10 h12 hmv hN
  by_cases hfull : N = 100
  · subst hfull
    clear hA hB hG h8 h11
    go_enter Try.func9, Try.ntmps9
    go_wp2_with fail
    go_ret2
    exact .inl ⟨rfl, Step.refl HA.out HB.out⟩
  · have hfne : ((N : Int) == 100) = false := beq_eq_false_iff_ne.2 (by omega)
    have HLT : Hid (N < 100) := Lib.hid (by omega)
    obtain ⟨R, rcap, hrv, hrcap⟩ := own_shape hA.ownR
    rw [hrv] at h8
    have hfewR := hG.fewR
    have hla := blk_lt hA.head
    have hf11 : w.frozen? ⟨aa, 11, none⟩ = false := blk_frozen hA.head 11
    rcases Nat.eq_zero_or_pos S.rs.length with h00 | hpos
    · have hrs : S.rs = [] := List.eq_nil_of_length_eq_zero h00
      have HL := Aside0.mk (fun (u : World) (hu : Below w.heap.size w u) => lastNil (HA.out.below hu) hrs)
      rw [h00] at h8
      have ht : tendOf S.rs = 0 := by unfold tendOf; rw [hrs]; rfl
      rw [ht, h00]
      clear hA hB hG hrv ht h00 hfull hrs
      go_enter Try.func9, Try.ntmps9
      go_upto_region 11 with (go_at_call 28; refine (HL.out _ (by exact below_alloc (Below.refl _ _) _)).mono ?_; rintro e w2 ⟨rfl, rfl⟩)
      have hcast : (S.lm : Int) + 1 = ((S.lm + 1 : Nat) : Int) := by omega
      rw [hcast]
      have HQ5 := Aside0.mk ((countM_step (Step.refl HA.out HB.out) (S.lm + 1)).below (below_alloc (Below.refl _ _) (.cells #[.int .i64 ((S.lm + 1 : Nat) : Int), .int .i64 0, .int .i64 0] 76)))
      have HB5 := Aside0.mk (blk_new (w.setCell ⟨aa, 11, none⟩ (.int .i64 ((S.lm + 1 : Nat) : Int))) (.cells #[.int .i64 ((S.lm + 1 : Nat) : Int), .int .i64 0, .int .i64 0] 76))
      rw [show (w.setCell ⟨aa, 11, none⟩ (.int .i64 ((S.lm + 1 : Nat) : Int))).heap.size = w.heap.size by simp] at HB5
      have hls : w.heap.size < ((w.setCell ⟨aa, 11, none⟩ (.int .i64 ((S.lm + 1 : Nat) : Int))).alloc (.cells #[.int .i64 ((S.lm + 1 : Nat) : Int), .int .i64 0, .int .i64 0] 76)).heap.size := by rw [alloc_size]; simp
      have HAA := HA
      clear h8 h9 h11 hf11 hcast h6 HL hrcap hfewR hla
      generalize (w.setCell ⟨aa, 11, none⟩ (.int .i64 ((S.lm + 1 : Nat) : Int))).alloc (.cells #[.int .i64 ((S.lm + 1 : Nat) : Int), .int .i64 0, .int .i64 0] 76) = w5 at *
      have HMB := Lib.hid (Eq.refl w.heap.size)
      have hla := blk_lt HQ5.out.arena.head
      obtain ⟨_, _, _, _, _, _, _, _, _, h9, _, _, _⟩ := arena_cells HQ5.out.arena.head
      rw [show ({ S with lm := S.lm + 1 } : ArS).mv = Value.slice A N cap by rw [HN.out, ← HMV.out]] at h9
      have s0 : w5.cell? ⟨w.heap.size, 0, none⟩ = some (.int .i64 ((S.lm + 1 : Nat) : Int)) := by rw [blk_cell HB5.out]; rfl
      have s1 : w5.cell? ⟨w.heap.size, 1, none⟩ = some (.int .i64 0) := by rw [blk_cell HB5.out]; rfl
      have s2 : w5.cell? ⟨w.heap.size, 2, none⟩ = some (.int .i64 0) := by rw [blk_cell HB5.out]; rfl
      have HO5 : Aside0 (w5.ownsRow 0 76 3 (.slice A N cap) N (rowsOf Mrk.cells S.ms)) := ⟨by
        have := HQ5.out.arena.ownM
        simp only [HMV.out, ← HN.out] at this
        exact this⟩
      have HKS : Aside0 (∀ u v, Below w5.heap.size w5 u → u.grownBy v (Value.slice A N cap).ownBlock → v.cell? ⟨aa, 9, none⟩ = some (.slice A N cap) ∧ v.frozen? ⟨aa, 9, none⟩ = false) := ⟨fun u v hu hg => by
        have hA := HQ5.out.arena.below hu
        have hn := hA.neM
        simp only [HMV.out, ← HN.out] at hn
        have h1 := blk_grown hA.head hg hn
        obtain ⟨_, _, _, _, _, _, _, _, _, a9, _⟩ := arena_cells h1
        exact ⟨by rw [a9]; simp only [HMV.out, ← HN.out], blk_frozen h1 9⟩⟩
      go_cut [] (fun wx => ∃ mv3, Aside0 (Step w wx aa p k s m size S q { S with lm := S.lm + 1, mv := mv3, ms := S.ms ++ [⟨((S.lm + 1 : Nat) : Int), 0, 0⟩] } b q ∧ wx.heap[w.heap.size]? = some (.cells #[.int .i64 ((S.lm + 1 : Nat) : Int), .int .i64 0, .int .i64 0] 76)))
      case first =>
        go_region_law (refine step_append_own rfl (.tmp 50) (.tmp 52) 71 rfl 76 _ 3 24 Try.underlying71 infoM rfl (by decide) (by decide) (.slice A N cap) N (rowsOf Mrk.cells S.ms) [.int .i64 ((S.lm + 1 : Nat) : Int), .int .i64 0, .int .i64 0] (by simp [Act.eval]) w5.heap.size (by simp [Act.eval]) rfl (by simp [Value.oneCell']) (by exact blk_new _ _) (by repeat (first | exact HO5.out | apply World.ownsRow.drew | apply World.ownsRow.alloc)) (by omega) ?_; intro g cap1 w6 ho hgr hat; obtain ⟨hc9, hf9⟩ := HKS.out _ w6 (by repeat (first | exact Below.refl _ _ | apply below_alloc | apply below_drew)) hgr; have HO6 := Aside0.mk (And.intro ho (And.intro hgr hat)); clear ho hgr hat)
        all_goals
          go_wp2_with fail
          go_meet
          have hst := mark_step (many := 0) (tend := 0) HQ5.out HN.out (by simp only [HMV.out, ← HN.out]) (by repeat (first | exact Below.refl _ _ | apply below_alloc | apply below_drew)) HO6.out.1 HO6.out.2.1 HO6.out.2.2
          have hst2 := mark_step (many := 0) (tend := 0) (Step.refl HQ5.out.arena HQ5.out.book) HN.out (by simp only [HMV.out, ← HN.out]) (by repeat (first | exact Below.refl _ _ | apply below_alloc | apply below_drew)) HO6.out.1 HO6.out.2.1 HO6.out.2.2
          exact ⟨_, ⟨hst, mark_stays hst2 HQ5.out.arena HQ5.out.book HB5.out (fun e => by have := own_lt' HAA.out.ownM e; omega)⟩⟩
      case rest =>
        obtain ⟨mv3, HQ6⟩ := hcut
        clear s0 s1 s2 h9 HKS HO5
        have s0 : wc.cell? ⟨w.heap.size, 0, none⟩ = some (.int .i64 ((S.lm + 1 : Nat) : Int)) := by rw [blk_cell HQ6.out.2]; rfl
        go_wp2_with fail
        go_ret2
        exact .inr ⟨rfl, by rw [← HN.out]; exact HLT.out, mv3, HQ6.out.1⟩
    · obtain ⟨j, hj⟩ : ∃ j, S.rs.length = j + 1 := ⟨S.rs.length - 1, by omega⟩
      obtain ⟨x, hx, hgl⟩ := last_at hj
      have HQr := hA.ownR
      rw [hrv] at HQr
      obtain ⟨g0, rfl, c0, c1, c2, c3⟩ := regAt HQr hx
      rw [hj] at hrv
      have HL := Aside0.mk (fun (u : World) (hu : Below w.heap.size w u) => lastSome (HA.out.below hu) (n := j) (by omega) hrv)
      have ht : tendOf S.rs = x.tt := by unfold tendOf; rw [hgl]
      have htt := (HG.out.reg (List.mem_of_getElem? hx)).2
      rw [ht]
      have HJ := Lib.hid hj
      rw [hj] at h8 hfewR
      have hb : Below w.heap.size w (w.alloc (.cells #[.int .i64 0, .int .i64 (j + 1 : Nat), .int .i64 0] 76)) := below_alloc (Below.refl _ _) _
      have hlg : g0 < w.heap.size := by have := World.block_lt_of_cell? w _ c3; simpa using this
      have HAA := HA
      have k3 : w.cell? ⟨g0, j * 4 + 1 + 2, none⟩ = _ := c3
      clear hA hB hG hrv ht hfull hpos HQr hx hgl c0 c1 c2 hb
      rw [hj]
      clear hj
      go_enter Try.func9, Try.ntmps9
      go_upto_region 11 with (go_at_call 28; refine (HL.out _ (by exact below_alloc (Below.refl _ _) _)).mono ?_; rintro e w2 ⟨rfl, m2, rfl⟩)
      have hcast : (S.lm : Int) + 1 = ((S.lm + 1 : Nat) : Int) := by omega
      rw [hcast]
      have HQ5 := Aside0.mk (((countM_step ((Step.refl HA.out HB.out).below (below_set (pw_below_drewN (below_alloc (Below.refl _ _) (.cells #[.int .i64 0, .int .i64 ((j : Int) + 1), .int .i64 0] 76)) m2) (Nat.le_refl _))) (S.lm + 1)).young ((Upd.refl (fun i => i = w.heap.size) _).setCell ⟨w.heap.size, 0, none⟩ (.inl rfl) (.int .i64 ((S.lm + 1 : Nat) : Int))) (fun i hi => ⟨Nat.le_of_eq hi.symm, fun h => by have := HA.out.lt (foot_same (S' := { S with lm := S.lm + 1 }) rfl rfl rfl rfl i h); omega, fun h => by have := HB.out.lt h; omega⟩) : Step w (((((w.alloc (.cells #[.int .i64 0, .int .i64 ((j : Int) + 1), .int .i64 0] 76)).drewN m2).setCell ⟨w.heap.size, 2, none⟩ (.int .i64 x.tt)).setCell ⟨aa, 11, none⟩ (.int .i64 ((S.lm + 1 : Nat) : Int))).setCell ⟨w.heap.size, 0, none⟩ (.int .i64 ((S.lm + 1 : Nat) : Int))) aa p k s m size S q { S with lm := S.lm + 1 } b q))
      have HB5 := Aside0.mk (blk_set (blk_far (blk_set (show ((w.alloc (.cells #[.int .i64 0, .int .i64 ((j : Int) + 1), .int .i64 0] 76)).drewN m2).heap[w.heap.size]? = _ from blk_new w _) 2 (.int .i64 x.tt)) (p := ⟨aa, 11, none⟩) (by show w.heap.size ≠ aa; omega) (.int .i64 ((S.lm + 1 : Nat) : Int))) 0 (.int .i64 ((S.lm + 1 : Nat) : Int)))
      simp only [List.setIfInBounds_toArray, List.set_cons_succ, List.set_cons_zero] at HB5
      have hls : w.heap.size < (((((w.alloc (.cells #[.int .i64 0, .int .i64 ((j : Int) + 1), .int .i64 0] 76)).drewN m2).setCell ⟨w.heap.size, 2, none⟩ (.int .i64 x.tt)).setCell ⟨aa, 11, none⟩ (.int .i64 ((S.lm + 1 : Nat) : Int))).setCell ⟨w.heap.size, 0, none⟩ (.int .i64 ((S.lm + 1 : Nat) : Int))).heap.size := by simp
      have HAA := HA
      clear h8 h9 h11 hf11 h6 HL hrcap hfewR hla k3 c3 hlg htt
      have hj1 : ((j : Int) + 1) = ((j + 1 : Nat) : Int) := by omega
      generalize ((((w.alloc (.cells #[.int .i64 0, .int .i64 ((j : Int) + 1), .int .i64 0] 76)).drewN m2).setCell ⟨w.heap.size, 2, none⟩ (.int .i64 x.tt)).setCell ⟨aa, 11, none⟩ (.int .i64 ((S.lm + 1 : Nat) : Int))).setCell ⟨w.heap.size, 0, none⟩ (.int .i64 ((S.lm + 1 : Nat) : Int)) = w5 at *
      rw [hj1] at HB5
      clear hcast hj1
      have HMB := Lib.hid (Eq.refl w.heap.size)
      have hla := blk_lt HQ5.out.arena.head
      obtain ⟨_, _, _, _, _, _, _, _, _, h9, _, _, _⟩ := arena_cells HQ5.out.arena.head
      rw [show ({ S with lm := S.lm + 1 } : ArS).mv = Value.slice A N cap by rw [HN.out, ← HMV.out]] at h9
      have s0 : w5.cell? ⟨w.heap.size, 0, none⟩ = some (.int .i64 ((S.lm + 1 : Nat) : Int)) := by rw [blk_cell HB5.out]; rfl
      have s1 : w5.cell? ⟨w.heap.size, 1, none⟩ = some (.int .i64 ((j + 1 : Nat) : Int)) := by rw [blk_cell HB5.out]; rfl
      have s2 : w5.cell? ⟨w.heap.size, 2, none⟩ = some (.int .i64 x.tt) := by rw [blk_cell HB5.out]; rfl
      have HO5 : Aside0 (w5.ownsRow 0 76 3 (.slice A N cap) N (rowsOf Mrk.cells S.ms)) := ⟨by
        have := HQ5.out.arena.ownM
        simp only [HMV.out, ← HN.out] at this
        exact this⟩
      have HKS : Aside0 (∀ u v, Below w5.heap.size w5 u → u.grownBy v (Value.slice A N cap).ownBlock → v.cell? ⟨aa, 9, none⟩ = some (.slice A N cap) ∧ v.frozen? ⟨aa, 9, none⟩ = false) := ⟨fun u v hu hg => by
        have hA := HQ5.out.arena.below hu
        have hn := hA.neM
        simp only [HMV.out, ← HN.out] at hn
        have h1 := blk_grown hA.head hg hn
        obtain ⟨_, _, _, _, _, _, _, _, _, a9, _⟩ := arena_cells h1
        exact ⟨by rw [a9]; simp only [HMV.out, ← HN.out], blk_frozen h1 9⟩⟩
      go_cut [] (fun wx => ∃ mv3, Aside0 (Step w wx aa p k s m size S q { S with lm := S.lm + 1, mv := mv3, ms := S.ms ++ [⟨((S.lm + 1 : Nat) : Int), (j + 1), x.tt⟩] } b q ∧ wx.heap[w.heap.size]? = some (.cells #[.int .i64 ((S.lm + 1 : Nat) : Int), .int .i64 ((j + 1 : Nat) : Int), .int .i64 x.tt] 76)))
      case first =>
        go_region_law (refine step_append_own rfl (.tmp 50) (.tmp 52) 71 rfl 76 _ 3 24 Try.underlying71 infoM rfl (by decide) (by decide) (.slice A N cap) N (rowsOf Mrk.cells S.ms) [.int .i64 ((S.lm + 1 : Nat) : Int), .int .i64 ((j + 1 : Nat) : Int), .int .i64 x.tt] (by simp [Act.eval]) w5.heap.size (by simp [Act.eval]) rfl (by simp [Value.oneCell']) (by exact blk_new _ _) (by repeat (first | exact HO5.out | apply World.ownsRow.drew | apply World.ownsRow.alloc)) (by omega) ?_; intro g cap1 w6 ho hgr hat; obtain ⟨hc9, hf9⟩ := HKS.out _ w6 (by repeat (first | exact Below.refl _ _ | apply below_alloc | apply below_drew)) hgr; have HO6 := Aside0.mk (And.intro ho (And.intro hgr hat)); clear ho hgr hat)
        all_goals
          go_wp2_with fail
          go_meet
          have hst := mark_step (many := (j + 1)) (tend := x.tt) HQ5.out HN.out (by simp only [HMV.out, ← HN.out]) (by repeat (first | exact Below.refl _ _ | apply below_alloc | apply below_drew)) HO6.out.1 HO6.out.2.1 HO6.out.2.2
          have hst2 := mark_step (many := (j + 1)) (tend := x.tt) (Step.refl HQ5.out.arena HQ5.out.book) HN.out (by simp only [HMV.out, ← HN.out]) (by repeat (first | exact Below.refl _ _ | apply below_alloc | apply below_drew)) HO6.out.1 HO6.out.2.1 HO6.out.2.2
          exact ⟨_, ⟨hst, mark_stays hst2 HQ5.out.arena HQ5.out.book HB5.out (fun e => by have := own_lt' HAA.out.ownM e; omega)⟩⟩
      case rest =>
        obtain ⟨mv3, HQ6⟩ := hcut
        clear s0 s1 s2 h9 HKS HO5
        have s0 : wc.cell? ⟨w.heap.size, 0, none⟩ = some (.int .i64 ((S.lm + 1 : Nat) : Int)) := by rw [blk_cell HQ6.out.2]; rfl
        go_wp2_with fail
        go_ret2
        exact .inr ⟨rfl, by rw [← HN.out]; exact HLT.out, mv3, HQ6.out.1⟩
end Go.Proofs.Yticbjaclnneaoaa.Arena
