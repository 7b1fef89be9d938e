/- Arenas: grow. -/
import Derived.Test.YticbjaclnneaoaaArStep
import Derived.Deep.RegionHeld3
namespace Go.Proofs.Yticbjaclnneaoaa.Arena
set_option linter.unusedVariables false
open Go.RowKit Go.Proofs.YticbjaclnneaoaaW.PrintWords Go.Proofs.YticbjaclnneaoaaW.PrintLast Go.Proofs.YticbjaclnneaoaaW.PrintMore Go.Proofs.Yticbjaclnneaoaa.Book Go.Proofs.Yticbjaclnneaoaa.Oct Go.Proofs.Yticbjaclnneaoaa.Pure
set_option linter.unusedSimpArgs false

theorem hB_below {w u : World} {p : Nat} {b : BookS} {q : Parts} (hB : BookAt w p b q) (hu : Below w.heap.size w u) : BookAt u p b q := hB.frame (fun j hj => hu.block j (hB.lt hj))
/-- Take by the one account, where there is room. -/
theorem take_zero {b : BookS} {h : Int} (o : One b h) (n : Nat) (h0 : 0 ≤ h) (hn : n ≤ 100000) (h1 : h + n ≤ 10000000) : takeErr b 1 n = 0 := by
  have hc : checkS 1 [(n : Int)] = 0 := by
    unfold checkS
    rw [if_pos (by omega), if_pos (by intro x hx; have := List.mem_singleton.1 hx; omega)]
  unfold takeErr
  rw [if_neg (by simpa using hc), o.acc]
  simp only
  rw [o.leftS _ rfl, if_neg (by omega)]
/-- The book has handed out G: the arena is as it was. -/
theorem took_book {w u u' : World} {aa p : Nat} {k s m size : Int} {S : ArS} {b : BookS} {q : Parts} {G : Nat} {i : Nat} {x : Int × Acc} (hA : ArenaAt w aa p 1 k s m size S) (hB : BookAt w p b q) (o : One b (aroom S.cs)) (hu : Below w.heap.size w u) (hi : b.accs[i]? = some x) (hl : Book.Leaves u u' p q (b.hold i 1 G)) :
    ∃ b' q', Aside0 (One b' ((aroom S.cs + G : Nat) : Int) ∧ Step w u' aa p k s m size S q S b' q') := by
  obtain ⟨rfl, rfl⟩ := o.only hi
  obtain ⟨q', h1, h2, h3⟩ := hl
  have hA2 := hA.below hu
  refine ⟨_, q', ⟨o.hold 1 G, hA2.upd h2 (fun j hj => hA2.not_book (hB_below hB hu) hj), h1, (Upd.of_below hu).then h2 (fun j hj => .inl (.inr hj)), fun j hj => .inl hj, fun j hj => (h3 j hj).imp id (Nat.le_trans hu.size)⟩⟩
/-- One chunk more, behind what the book has handed out. -/
theorem grown_step {w w3 w4 w5 : World} {aa p : Nat} {k s m size : Int} {S : ArS} {q : Parts} {b' : BookS} {q' : Parts} {B : Option Addr} {N bcap g4 G g5 cap5 : Nat} {X : Obj} (h : Step w w3 aa p k s m size S q S b' q') (hcv : S.cv = .slice B S.cs.length bcap) (hN : N = S.cs.length) (hg : w3.heap.size ≤ g4) (hrow : Row w4 g4 (List.replicate G 0)) (hb : Below w3.heap.size w3 w4)
    (ho : w5.ownsRow 0 46 1 (.slice (some ⟨g5, 0, none⟩) (N + 1) cap5) (N + 1) (rowsOf Chu.cells S.cs ++ [.slice (some ⟨g4, 0, none⟩) G G])) (hgr : (w4.alloc X).grownBy w5 (Value.slice B N bcap).ownBlock) (hat : some g5 = (Value.slice B N bcap).ownBlock ∨ (w4.alloc X).heap.size ≤ g5) :
    Step w (w5.setCell ⟨aa, 7, none⟩ (.slice (some ⟨g5, 0, none⟩) (N + 1) cap5)) aa p k s m size S q { S with cv := .slice (some ⟨g5, 0, none⟩) (N + 1) cap5, cs := S.cs ++ [⟨g4, List.replicate G 0⟩] } b' q' := by
  subst hN
  rw [← hcv] at hgr hat
  have hW : Below w3.heap.size w3 (w4.alloc X) := below_alloc hb X
  obtain ⟨a1, a2, a3⟩ := h.arena.putC hW (c := ⟨g4, List.replicate G 0⟩) (hrow.below (below_alloc (Below.refl _ _) X)) hg (by simpa [Chu.cells] using ho) hgr hat
  have hbk := h.book.frame (fun j hj => a2.block j (h.book.lt hj) (fun hA => h.arena.not_book h.book hA hj))
  exact h.trans ⟨a1, hbk, a2.mono (fun j hj => .inl hj), a3, fun j hj => .inl hj⟩
theorem mx_nat (a b : Nat) : mx (a : Int) (b : Int) = ((max a b : Nat) : Int) := by unfold mx; split <;> omega

set_option maxHeartbeats 2000000 in
set_option maxRecDepth 100000 in
theorem growA {w : World} {aa p : Nat} {k s m : Int} {size : Nat} {S : ArS} {b : BookS} {q : Parts} (hA : ArenaAt w aa p 1 k s m size S) (hG : Good S) (hB : BookAt w p b q) (one : One b (aroom S.cs)) (n : Nat) (hn : n ≤ 100000) (hs : size ≤ 100000) :
    Calls Try.prog 30 #[.pointer (some ⟨aa, 0, none⟩), .int .i64 n] w fun e w' =>
      (∃ err q', err ≠ 0 ∧ e = .returned (.int .i64 err) ∧ Step w w' aa p k s m size S q S b q') ∨
      (∃ cv' c b' q', e = .returned (.int .i64 0) ∧ Step w w' aa p k s m size S q { S with cv := cv', cs := S.cs ++ [c] } b' q' ∧ n ≤ c.ys.length ∧ One b' (aroom (S.cs ++ [c])) ∧ aroom (S.cs ++ [c]) ≤ 100000 ∧ S.cs.length + 1 ≤ 200) := by
  have HA := Aside0.mk hA
  have HB := Aside0.mk hB
  have HO := Aside0.mk one
  have HG := Aside0.mk hG
  obtain ⟨hh0, hh1, hh2, hh3, hh4, hh5, hh6, hh7, hh8, hh9, hh10, hh11, hh12⟩ := arena_cells hA.head
  obtain ⟨B, bcap, hcv, hbcap⟩ := own_shape hA.ownC
  have HCV := Lib.hid hcv
  rw [hcv] at hh7
  have hfew := hG.few
  obtain ⟨N, hN⟩ : ∃ N, N = S.cs.length := ⟨_, rfl⟩
  rw [← hN] at hh7 hbcap hfew
  have HN := Lib.hid hN
  have hS : ∀ u, Below w.heap.size w u → u.cell? ⟨aa, 2, none⟩ = some (.int .i64 k) ∧ u.cell? ⟨aa, 3, none⟩ = some (.int .i64 s) ∧ u.cell? ⟨aa, 4, none⟩ = some (.int .i64 m) ∧ u.cell? ⟨aa, 5, none⟩ = some (.int .i64 size) := fun u hu => ⟨old_cell hh2 hu, old_cell hh3 hu, old_cell hh4 hu, old_cell hh5 hu⟩
  have HS := Aside0.mk hS
  clear hA hB one hG hh0 hh1 hh6 hh8 hh9 hh10 hh11 hh12 hcv hN hS
  by_cases hlt : N = 200
  · subst hlt
    go_enter Try.func30, Try.ntmps30
    go_wp2_with fail
    go_ret
    exact .inl ⟨4, q, by decide, rfl, Step.refl HA.out HB.out⟩
  · obtain ⟨need, hneed⟩ : ∃ d : Nat, d = max size n := ⟨_, rfl⟩
    obtain ⟨G1, hG1⟩ : ∃ G1, G1 = (rgGrow k s m 0 need).1 := ⟨_, rfl⟩
    obtain ⟨G2, hG2⟩ : ∃ G2, G2 = (rgGrow k s m 0 need).2 := ⟨_, rfl⟩
    have HGr := Aside0.mk (fun u : World => grow k s m 0 need u)
    rw [← hG1, ← hG2] at HGr
    have hmx : (if size < n then (n : Int) else (size : Int)) = (need : Int) := by split <;> omega
    have HX := Lib.hid hneed
    have hneq : ((N : Int) == 200) = false := beq_eq_false_iff_ne.2 (by omega)
    clear hneed
    have HG1 := Lib.hid hG1
    have HG2 := Lib.hid hG2
    clear hG1 hG2
    by_cases hg2 : G2 = 0
    · have hle := rg_grow_le k s m 0 need (by rw [← HG2.out]; exact hg2)
      rw [← HG1.out] at hle
      obtain ⟨l1, l2, _, _, _, _, l3, _⟩ := hle
      obtain ⟨G, rfl⟩ : ∃ G : Nat, G1 = G := ⟨G1.toNat, by omega⟩
      obtain ⟨R, hR⟩ : ∃ R, R = aroom S.cs := ⟨_, rfl⟩
      have hRl := HG.out.room
      rw [← hR] at hRl
      have HR := Lib.hid hR
      have HRm := Aside0.mk (fun (u : World) (hu : Below w.heap.size w u) => aroomOf (HA.out.below hu) HG.out)
      rw [← hR] at HRm
      have HGN : Hid (n ≤ G) := Lib.hid (by have := HX.out; omega)
      have hG0 : G ≤ 100000 := by omega
      subst hg2
      clear hR l1 l2 l3
      by_cases hfull : 100000 < R + G
      · have hdf : decide (100000 < (R : Int) + (G : Int)) = true := decide_eq_true (by omega)
        go_enter Try.func30, Try.ntmps30
        go_wp2_with fail
        go_cut [5, 6] (fun s5 s6 wx => s5 = .int .i64 G ∧ s6 = .int .i64 0 ∧ Aside0 (Below w.heap.size w wx))
        case first =>
          go_region_held3 (fun u => u.cell? ⟨aa, 2, none⟩ = some (.int .i64 k) ∧ u.cell? ⟨aa, 3, none⟩ = some (.int .i64 s) ∧ u.cell? ⟨aa, 4, none⟩ = some (.int .i64 m) ∧ u.cell? ⟨aa, 5, none⟩ = some (.int .i64 size)) (first | exact HS.out _ (below_drew (Below.refl _ _)) | exact HS.out _ (below_then (below_drew (Below.refl _ _)) (Nat.le_refl _) HB9.out)) ((go_at_call 42; refine (HGr.out _).mono ?_; rintro e w9 ⟨rfl, hb9⟩; have HB9 := Aside0.mk hb9; clear hb9))
          all_goals
            go_wp2_with fail
            go_meet
            exact ⟨rfl, rfl, ⟨below_then (below_drew (Below.refl _ _)) (Nat.le_refl _) HB9.out⟩⟩
        case rest =>
          obtain ⟨rfl, rfl, HB1⟩ := hcut
          clear HS HGr hmx
          go_wp2_with (go_at_call 21; refine (HRm.out _ HB1.out).mono ?_; rintro e w2 ⟨rfl, m2, rfl⟩)
          go_ret
          exact .inl ⟨4, q, by decide, rfl, (Step.refl HA.out HB.out).below (pw_below_drewN HB1.out _)⟩
      · have hdf : decide (100000 < (R : Int) + (G : Int)) = false := decide_eq_false (by omega)
        have HK := Aside0.mk (fun (u : World) (hu : Below w.heap.size w u) => take_ok (hB_below HB.out hu) (HO.out.ok (by omega) (by have := HG.out.room; omega)) 1 G (take_zero HO.out G (by omega) hG0 (by have := HR.out; omega)))
        have HS2 : Aside0 (∀ u, Below w.heap.size w u → u.cell? ⟨aa, 0, none⟩ = some (.pointer (some ⟨p, 0, none⟩)) ∧ u.cell? ⟨aa, 1, none⟩ = some (.int .i64 1)) := ⟨fun u hu => by
          obtain ⟨a0, a1, _⟩ := arena_cells (HA.out.below hu).head
          exact ⟨a0, a1⟩⟩
        have HS3 : Aside0 (∀ u u' b'', Below w.heap.size w u → Book.Leaves u u' p q b'' → u'.cell? ⟨aa, 0, none⟩ = some (.pointer (some ⟨p, 0, none⟩)) ∧ u'.cell? ⟨aa, 1, none⟩ = some (.int .i64 1)) := ⟨fun u u' b'' hu hl => by
          obtain ⟨q', _, hup, _⟩ := hl
          have hA2 := HA.out.below hu
          obtain ⟨a0, a1, _⟩ := arena_cells (hA2.upd hup (fun j hj => hA2.not_book (hB_below HB.out hu) hj)).head
          exact ⟨a0, a1⟩⟩
        go_enter Try.func30, Try.ntmps30
        go_wp2_with fail
        go_cut [5, 6] (fun s5 s6 wx => s5 = .int .i64 G ∧ s6 = .int .i64 0 ∧ Aside0 (Below w.heap.size w wx))
        case first =>
          go_region_held3 (fun u => u.cell? ⟨aa, 2, none⟩ = some (.int .i64 k) ∧ u.cell? ⟨aa, 3, none⟩ = some (.int .i64 s) ∧ u.cell? ⟨aa, 4, none⟩ = some (.int .i64 m) ∧ u.cell? ⟨aa, 5, none⟩ = some (.int .i64 size)) (first | exact HS.out _ (below_drew (Below.refl _ _)) | exact HS.out _ (below_then (below_drew (Below.refl _ _)) (Nat.le_refl _) HB9.out)) ((go_at_call 42; refine (HGr.out _).mono ?_; rintro e w9 ⟨rfl, hb9⟩; have HB9 := Aside0.mk hb9; clear hb9))
          all_goals
            go_wp2_with fail
            go_meet
            exact ⟨rfl, rfl, ⟨below_then (below_drew (Below.refl _ _)) (Nat.le_refl _) HB9.out⟩⟩
        case rest =>
          obtain ⟨rfl, rfl, HB1⟩ := hcut
          clear HS HGr hmx hh2 hh3 hh4 hh5 hh7
          go_wp2_with (go_at_call 21; refine (HRm.out _ HB1.out).mono ?_; rintro e w2 ⟨rfl, m2, rfl⟩)
          have HB2 : Aside0 (Below w.heap.size w (wc.drewN m2)) := ⟨pw_below_drewN HB1.out _⟩
          generalize wc.drewN m2 = w2 at *
          go_cut [7] (fun s7 wx => s7 = .int .i64 0 ∧ ∃ b' q', Aside0 (One b' (aroom S.cs + G : Nat) ∧ Step w wx aa p k s m size S q S b' q'))
          case first =>
            go_region_held3 (fun u => u.cell? ⟨aa, 0, none⟩ = some (.pointer (some ⟨p, 0, none⟩)) ∧ u.cell? ⟨aa, 1, none⟩ = some (.int .i64 1)) (first | exact HS2.out _ (below_drew HB2.out) | exact HS3.out _ _ _ (below_drew HB2.out) HL.out) ((go_at_call 43; refine (HK.out _ (below_drew HB2.out)).mono ?_; rintro e w9 ⟨rfl, i, x, i1, i2, i3, i4, i5, hl⟩; have HL := Aside0.mk hl; have HI := Aside0.mk i1; clear hl i1 i2 i3 i4 i5))
            all_goals
              go_wp2_with fail
              go_meet
              exact ⟨rfl, took_book HA.out HB.out HO.out (below_drew HB2.out) HI.out HL.out⟩
          case rest =>
            obtain ⟨rfl, b', q', HT⟩ := hcut
            generalize wc = w3 at *
            have hsz3 := HT.out.2.arena.head
            have HK7 : Aside0 (∀ u, Below w3.heap.size w3 u → u.cell? ⟨aa, 7, none⟩ = some (.slice B N bcap)) := ⟨fun u hu => by
              obtain ⟨_, _, _, _, _, _, _, a7, _⟩ := arena_cells (HT.out.2.arena.below hu).head
              rw [a7, HCV.out, HN.out]⟩
            have HKO : Aside0 (∀ u, Below w3.heap.size w3 u → u.ownsRow 0 46 1 (.slice B N bcap) N (rowsOf Chu.cells S.cs)) := ⟨fun u hu => by
              have := (HT.out.2.arena.below hu).ownC
              rw [HCV.out, ← HN.out] at this
              exact this⟩
            have HKS : Aside0 (∀ u v, Below w3.heap.size w3 u → u.grownBy v (Value.slice B N bcap).ownBlock → v.cell? ⟨aa, 7, none⟩ = some (.slice B N bcap) ∧ v.frozen? ⟨aa, 7, none⟩ = false) := ⟨fun u v hu hg => by
              have hA := HT.out.2.arena.below hu
              have hn := hA.neC
              rw [HCV.out, ← HN.out] at hn
              have h1 := blk_grown hA.head hg hn
              obtain ⟨_, _, _, _, _, _, _, a7, _⟩ := arena_cells h1
              exact ⟨by rw [a7, HCV.out, HN.out], blk_frozen h1 7⟩⟩
            clear HB1 HB2 HS2 HS3 HRm HK hsz3
            go_wp2_with (first | (go_at_call 44; refine (made8 G hG0 w3).mono ?_; rintro e w4 ⟨g4, rfl, hg4, hrow4, hb4⟩; have h7 := HK7.out w4 hb4; have HW4 := Aside0.mk (And.intro hg4 (And.intro hrow4 hb4)); clear hg4 hrow4 hb4) | (at_builtin; refine list_append_own rfl (.tmp 61) (.tmp 63) 69 rfl 46 (.slice none 0 0) 1 24 Try.underlying69 infoS rfl (by decide) (by decide) (.slice B N bcap) N (rowsOf Chu.cells S.cs) [.slice (some ⟨g4, 0, none⟩) G G] (by simp [Act.eval]) w4.heap.size (by simp [Act.eval]) rfl (by simp [Value.oneCell']) (by exact blk_new w4 _) (HKO.out _ (by exact below_alloc HW4.out.2.2 _)) (by omega) ?_; intro g5 cap5 w5 ho5 hgr5 hat5; obtain ⟨hc7, hf7⟩ := HKS.out _ w5 (by exact below_alloc HW4.out.2.2 _) hgr5; have HO5 := Aside0.mk (And.intro ho5 (And.intro hgr5 hat5)); clear ho5 hgr5 hat5))
            go_ret
            have hst := grown_step HT.out.2 HCV.out HN.out HW4.out.1 HW4.out.2.1 HW4.out.2.2 HO5.out.1 HO5.out.2.1 HO5.out.2.2
            refine .inr ⟨_, ⟨g4, List.replicate G 0⟩, b', q', rfl, hst, by simpa using HGN.out, ?_, ?_, by have := HN.out; omega⟩
            · have := HT.out.1
              rw [aroom_app]
              simpa [aroom] using this
            · rw [aroom_app, ← HR.out]
              simp [aroom]
              omega
    · have hne : (G2 != 0) = true := bne_iff_ne.2 hg2
      have HNE := Lib.hid hg2
      clear hg2
      go_enter Try.func30, Try.ntmps30
      go_wp2_with fail
      go_cut [5, 6] (fun s5 s6 wx => s5 = .int .i64 G1 ∧ s6 = .int .i64 G2 ∧ Aside0 (Below w.heap.size w wx))
      case first =>
        go_region_held3 (fun u => u.cell? ⟨aa, 2, none⟩ = some (.int .i64 k) ∧ u.cell? ⟨aa, 3, none⟩ = some (.int .i64 s) ∧ u.cell? ⟨aa, 4, none⟩ = some (.int .i64 m) ∧ u.cell? ⟨aa, 5, none⟩ = some (.int .i64 size)) (first | exact HS.out _ (below_drew (Below.refl _ _)) | exact HS.out _ (below_then (below_drew (Below.refl _ _)) (Nat.le_refl _) HB9.out)) ((go_at_call 42; refine (HGr.out _).mono ?_; rintro e w9 ⟨rfl, hb9⟩; have HB9 := Aside0.mk hb9; clear hb9))
        all_goals
          go_wp2_with fail
          go_meet
          exact ⟨rfl, rfl, ⟨below_then (below_drew (Below.refl _ _)) (Nat.le_refl _) HB9.out⟩⟩
      case rest =>
        obtain ⟨rfl, rfl, HB1⟩ := hcut
        go_wp2_with fail
        go_ret
        exact .inl ⟨_, q, HNE.out, rfl, (Step.refl HA.out HB.out).below HB1.out⟩
end Go.Proofs.Yticbjaclnneaoaa.Arena
