/- The book: what takes and gives. -/
import Derived.Test.YticbjaclnneaoaaBook2
import Derived.Deep.RegionHeld3
import Derived.Deep.DrawnRows
import Derived.IntWalk
namespace Go.Proofs.Yticbjaclnneaoaa.Book
set_option linter.unusedVariables false
open Go.RowKit Go.Proofs.YticbjaclnneaoaaW.PrintWords Go.Proofs.YticbjaclnneaoaaW.PrintLast Go.Proofs.YticbjaclnneaoaaW.PrintMore Go.Proofs.Yticbjaclnneaoaa.MapInt
set_option linter.unusedSimpArgs false

/-- note, at every length. -/
theorem note (p : Nat) (c0 c1 c2 c3 c4 c5 ev : Value) (es : List (List Value)) (e0 e1 e2 e3 e4 e5 : Int) (w : World) (hn : es.length ≤ 10000) (h6 : ∀ e ∈ es, e.length = 6 ∧ ∀ u ∈ e, u.oneCell' = true)
    (hb : w.heap[p]? = some (.cells #[c0, c1, c2, c3, c4, c5, ev] 60)) (ho : w.ownsRow 0 67 6 ev es.length (flat es)) :
    Calls Try.prog 24 #[.pointer (some ⟨p, 0, none⟩), .agg #[.int .i64 e0, .int .i64 e1, .int .i64 e2, .int .i64 e3, .int .i64 e4, .int .i64 e5]] w fun e w' => e = .returned (.tuple #[]) ∧
      ∃ ev', w'.heap[p]? = some (.cells #[c0, c1, c2, c3, c4, c5, ev'] 60) ∧ w'.ownsRow 0 67 6 ev' (noteL es (ent e0 e1 e2 e3 e4 e5)).length (flat (noteL es (ent e0 e1 e2 e3 e4 e5))) ∧
        Upd (fun k => k = p ∨ some k = ev.ownBlock) w w' ∧ (∀ k, some k = ev'.ownBlock → some k = ev.ownBlock ∨ w.heap.size ≤ k) := by
  have hfl : flat (es ++ [ent e0 e1 e2 e3 e4 e5]) = flat es ++ ent e0 e1 e2 e3 e4 e5 := by simp [flat]
  by_cases h : es.length < 10000
  · have q1 : noteL es (ent e0 e1 e2 e3 e4 e5) = es ++ [ent e0 e1 e2 e3 e4 e5] := by unfold noteL; rw [if_pos h]
    rw [q1, hfl, List.length_append]
    exact note_low p c0 c1 c2 c3 c4 c5 ev es.length (flat es) e0 e1 e2 e3 e4 e5 w h hb ho
  · have h10 : es.length = 10000 := by omega
    have q1 : noteL es (ent e0 e1 e2 e3 e4 e5) = (es ++ [ent e0 e1 e2 e3 e4 e5]).drop 5001 := by unfold noteL; rw [if_neg h]
    have q2 : ((es ++ [ent e0 e1 e2 e3 e4 e5]).drop 5001).length = 5000 := by rw [List.length_drop, List.length_append, List.length_singleton]; omega
    have q3 : flat ((es ++ [ent e0 e1 e2 e3 e4 e5]).drop 5001) = (flat es ++ ent e0 e1 e2 e3 e4 e5).drop 30006 := by
      rw [flat_drop _ _ (fun x hx => (List.mem_append.1 hx).elim (fun h => (h6 x h).1) (fun h => by rw [List.mem_singleton.1 h]; rfl)), hfl]
    rw [q1, q2, q3]
    rw [h10] at ho
    exact note_full p c0 c1 c2 c3 c4 c5 ev (flat es) e0 e1 e2 e3 e4 e5 w (flat_one (fun x hx => (h6 x hx).2)) hb ho

set_option maxRecDepth 100000 in
theorem counts (g : Nat) (a : Acc) (w : World) (hg : w.heap[g]? = some (accCells a)) (h0 : 0 ≤ a.held) (h1 : 0 ≤ a.leased) (h2 : a.held + a.leased ≤ 10000000) :
    Calls Try.prog 53 #[.pointer (some ⟨g, 0, none⟩)] w fun e w' => e = .returned (.int .i64 (a.held + a.leased)) ∧ ∃ m, w' = w.drewN m := by
  have hc1 : w.cell? ⟨g, 1, none⟩ = some (.int .i64 a.held) := by rw [blk_cell hg]; rfl
  have hc2 : w.cell? ⟨g, 2, none⟩ = some (.int .i64 a.leased) := by rw [blk_cell hg]; rfl
  clear hg
  generalize a.held = x at *
  generalize a.leased = y at *
  have hw : IntKind.i64.wrap (x + y) = x + y := IntWalk.i64_in _ (by omega)
  go_enter Try.func53, Try.ntmps53
  go_wp2
  go_quiet ((fail))
  go_wp2
  go_ret
  exact ⟨rfl, _, rfl⟩

/-- How much more an account can take. -/
def leftS (b : BookS) (a : Acc) : Int := mn (a.limit - (a.held + a.leased)) (b.budget - b.total)

set_option maxHeartbeats 1000000 in
set_option maxRecDepth 100000 in
theorem left (p g : Nat) (budget total : Int) (c2 c3 c4 c5 c6 : Value) (a : Acc) (w : World) (hb : w.heap[p]? = some (.cells #[.int .i64 budget, .int .i64 total, c2, c3, c4, c5, c6] 60)) (hg : w.heap[g]? = some (accCells a)) (h0 : 0 ≤ a.held) (h1 : 0 ≤ a.leased) (h2 : a.held + a.leased ≤ a.limit) (h3 : a.limit ≤ 10000000) (h4 : 0 ≤ total) (h5 : total ≤ 10000000) (h6 : 0 ≤ budget) (h7 : budget ≤ 10000000) :
    Calls Try.prog 50 #[.pointer (some ⟨p, 0, none⟩), .pointer (some ⟨g, 0, none⟩)] w fun e w' => e = .returned (.int .i64 (mn (a.limit - (a.held + a.leased)) (budget - total))) ∧ ∃ m, w' = w.drewN m := by
  have HC := Aside0.mk (fun u : World => fun hu : u.heap[g]? = some (accCells a) => counts g a u hu h0 h1 (by omega))
  have HG := Aside0.mk hg
  have hc0 : w.cell? ⟨g, 0, none⟩ = some (.int .i64 a.limit) := by rw [blk_cell hg]; rfl
  have hp0 : w.cell? ⟨p, 0, none⟩ = some (.int .i64 budget) := by rw [blk_cell hb]; rfl
  have hp1 : w.cell? ⟨p, 1, none⟩ = some (.int .i64 total) := by rw [blk_cell hb]; rfl
  clear hb hg
  generalize hx : a.held + a.leased = x at *
  have hw1 : IntKind.i64.wrap (a.limit - x) = a.limit - x := IntWalk.i64_in _ (by omega)
  have hw2 : IntKind.i64.wrap (budget - total) = budget - total := IntWalk.i64_in _ (by omega)
  have hmin : (if budget - total < a.limit - x then budget - total else a.limit - x) = mn (a.limit - x) (budget - total) := by unfold mn; first | rfl | (split <;> split <;> omega) | (split <;> omega)
  have hmin2 : (if a.limit - x < budget - total then a.limit - x else budget - total) = mn (a.limit - x) (budget - total) := by unfold mn; first | rfl | (split <;> split <;> omega) | (split <;> omega)
  clear hx
  go_enter Try.func50, Try.ntmps50
  go_wp2
  go_quiet ((exact Calls.quiet_of (HC.out _ (by exact HG.out))))
  go_wp2
  go_ret
  exact ⟨rfl, _, rfl⟩

/-- An account's number i holds n more (or less); an entry tells of it. -/
def BookS.put (b : BookS) (i : Nat) (n kind owner amount : Int) : BookS :=
  { b with total := b.total + n, accs := b.accs.modify i (fun x => (x.1, { x.2 with held := x.2.held + n })), entries := noteL b.entries (ent kind owner 0 amount 0 0) }

theorem put_M (b : BookS) (q : Parts) (i : Nat) (n kind owner amount : Int) (ev' : Value) : Parts.M ⟨q.mb, q.gs, q.lv, ev'⟩ (b.put i n kind owner amount) = q.M b := by
  unfold Parts.M BookS.put
  simp only
  generalize b.accs = l
  generalize q.gs = gs
  induction l generalizing gs i with
  | nil => simp
  | cons a l ih =>
    cases gs with
    | nil => simp
    | cons g gs =>
      cases i with
      | zero => simp
      | succ i => simp [ih]

theorem book_put {w W : World} {p g i : Nat} {b : BookS} {q : Parts} {ev' : Value} {x : Int × Acc} {n kind owner amount : Int} (hB : BookAt w p b q) (hg : q.gs[i]? = some g) (hx : b.accs[i]? = some x)
    (hhead : W.heap[p]? = some (.cells #[.int .i64 b.budget, .int .i64 (b.total + n), .int .i64 b.time, .int .i64 b.last, .map (some q.mb), q.lv, ev'] 60))
    (hbox : W.heap[g]? = some (accCells { x.2 with held := x.2.held + n }))
    (hfar : ∀ k, k < w.heap.size → k ≠ p → k ≠ g → some k ≠ q.ev.ownBlock → W.heap[k]? = w.heap[k]?)
    (hent : W.ownsRow 0 67 6 ev' (noteL b.entries (ent kind owner 0 amount 0 0)).length (flat (noteL b.entries (ent kind owner 0 amount 0 0)))) :
    BookAt W p (b.put i n kind owner amount) ⟨q.mb, q.gs, q.lv, ev'⟩ where
  head := hhead
  map := by
    rw [put_M]
    have hgm : g ∈ q.gs := List.mem_of_getElem? hg
    exact hB.map.of_heap (hfar q.mb hB.map.lt hB.mb_ne (fun e => (hB.box_ne hgm).2.1 e.symm) (own_not_map hB.entries hB.map))
  len := by simp [BookS.put, hB.len]
  nodup := hB.nodup
  boxes := fun j k hk => by
    obtain ⟨a, ha, hb⟩ := hB.boxes j k hk
    have hkm : k ∈ q.gs := List.mem_of_getElem? hk
    by_cases hij : i = j
    · subst hij
      obtain rfl : g = k := Option.some.inj (hg.symm.trans hk)
      obtain rfl : x = a := Option.some.inj (hx.symm.trans ha)
      exact ⟨_, by simp only [BookS.put]; rw [List.getElem?_modify, ha]; simp; rfl, hbox⟩
    · refine ⟨a, ?_, ?_⟩
      · simp only [BookS.put]; rw [List.getElem?_modify, ha]; simp [hij]
      · obtain ⟨m1, m2, m3, m4⟩ := hB.box_ne hkm
        have hne : k ≠ g := fun e => by
          subst e
          have h1 := List.getElem?_eq_some_iff.1 hk
          have h2 := List.getElem?_eq_some_iff.1 hg
          obtain ⟨l1, e1⟩ := h1
          obtain ⟨l2, e2⟩ := h2
          exact hij ((List.getElem_inj hB.nodup).1 (e2.trans e1.symm))
        exact (hfar k (blk_lt hb) m1 hne m4).trans hb
  leases := own_frame hB.leases (fun k hk => hfar k (own_lt' hB.leases hk) (fun e => own_not hB.leases hB.head (by decide) (e ▸ hk)) (fun e => by
    have hgm : g ∈ q.gs := List.mem_of_getElem? hg
    exact (hB.box_ne hgm).2.2.1 (e ▸ hk)) (own_apart hB.leases hB.entries (by decide) hk))
  entries := hent
  few := noteL_few _ _ hB.few
  fewL := hB.fewL
  plain := fun e he => by
    rcases noteL_mem he with h | rfl
    · exact hB.plain e h
    · exact ⟨rfl, ent_one⟩

theorem hold_done {w W W3 : World} {p g i : Nat} {b : BookS} {q : Parts} {ev' : Value} {x : Int × Acc} {n kind owner amount : Int} (hB : BookAt w p b q) (hg : q.gs[i]? = some g) (hx : b.accs[i]? = some x)
    (hbox : W.heap[g]? = some (.cells #[.int .i64 x.2.limit, .int .i64 (x.2.held + n), .int .i64 x.2.leased] 64)) (hu : Upd (fun k => k = g ∨ k = p) w W)
    (h1 : W3.heap[p]? = some (.cells #[.int .i64 b.budget, .int .i64 (b.total + n), .int .i64 b.time, .int .i64 b.last, .map (some q.mb), q.lv, ev'] 60))
    (h2 : W3.ownsRow 0 67 6 ev' (noteL b.entries (ent kind owner 0 amount 0 0)).length (flat (noteL b.entries (ent kind owner 0 amount 0 0))))
    (h3 : Upd (fun k => k = p ∨ some k = q.ev.ownBlock) W W3) (h4 : ∀ k, some k = ev'.ownBlock → some k = q.ev.ownBlock ∨ W.heap.size ≤ k) :
    BookAt W3 p (b.put i n kind owner amount) ⟨q.mb, q.gs, q.lv, ev'⟩ ∧ Upd (q.Foot p) w W3 ∧ (∀ k, Parts.Foot p ⟨q.mb, q.gs, q.lv, ev'⟩ k → q.Foot p k ∨ w.heap.size ≤ k) := by
  have hgm : g ∈ q.gs := List.mem_of_getElem? hg
  obtain ⟨m1, m2, m3, m4⟩ := hB.box_ne hgm
  have hsz := hu.size
  refine ⟨book_put hB hg hx h1 ?_ ?_ h2, ?_, ?_⟩
  · exact (h3.block g (blk_lt hbox) (fun h => h.elim m1 m4)).trans hbox
  · intro k hk a1 a2 a3
    rw [h3.block k (by omega) (fun h => h.elim a1 a3), hu.block k hk (fun h => h.elim a2 a1)]
  · refine (hu.mono (S' := q.Foot p) (fun k hk => ?_)).then h3 (fun k hk => .inl ?_)
    · rcases hk with rfl | rfl
      · exact .inr (.inr (.inl hgm))
      · exact .inl rfl
    · rcases hk with rfl | hk
      · exact .inl rfl
      · exact .inr (.inr (.inr (.inr hk)))
  · intro k hk
    rcases hk with h | h | h | h | h
    · exact .inl (.inl h)
    · exact .inl (.inr (.inl h))
    · exact .inl (.inr (.inr (.inl h)))
    · exact .inl (.inr (.inr (.inr (.inl h))))
    · rcases h4 k h with h | h
      · exact .inl (.inr (.inr (.inr (.inr h))))
      · exact .inr (by omega)

set_option maxHeartbeats 1000000 in
set_option maxRecDepth 100000 in
theorem hold {p g i : Nat} {b : BookS} {q : Parts} {w : World} {x : Int × Acc} (hB : BookAt w p b q) (hg : q.gs[i]? = some g) (hx : b.accs[i]? = some x) (owner n : Int) (a0 : 0 ≤ x.2.held) (a1 : x.2.held ≤ 10000000) (t0 : 0 ≤ b.total) (t1 : b.total ≤ 10000000) (n0 : -10000000 ≤ n) (n1 : n ≤ 10000000) :
    Calls Try.prog 51 #[.pointer (some ⟨p, 0, none⟩), .pointer (some ⟨g, 0, none⟩), .int .i64 owner, .int .i64 n] w fun e w' => e = .returned (.tuple #[]) ∧
      ∃ q', BookAt w' p (b.put i n (if 0 ≤ n then 3 else 4) owner (if 0 ≤ n then n else -n)) q' ∧ Upd (q.Foot p) w w' ∧ (∀ k, q'.Foot p k → q.Foot p k ∨ w.heap.size ≤ k) := by
  have hgm : g ∈ q.gs := List.mem_of_getElem? hg
  obtain ⟨x', hx', hbox⟩ := hB.boxes i g hg
  obtain rfl : x = x' := Option.some.inj (hx.symm.trans hx')
  have hgp : g ≠ p := (hB.box_ne hgm).1
  have hgev : some g ≠ q.ev.ownBlock := (hB.box_ne hgm).2.2.2
  have hpev : some p ≠ q.ev.ownBlock := own_not hB.entries hB.head (by decide)
  have hc1 : w.cell? ⟨g, 1, none⟩ = some (.int .i64 x.2.held) := by rw [blk_cell hbox]; rfl
  have hf1 : w.frozen? ⟨g, 1, none⟩ = false := blk_frozen hbox 1
  have hp1 : ∀ v, (w.setCell ⟨g, 1, none⟩ v).cell? ⟨p, 1, none⟩ = some (.int .i64 b.total) := fun v => by rw [World.cell?_setCell_far _ _ _ _ hgp, blk_cell hB.head]; rfl
  have hfp : ∀ v, (w.setCell ⟨g, 1, none⟩ v).frozen? ⟨p, 1, none⟩ = false := fun v => blk_frozen (blk_far hB.head (Ne.symm hgp) v) 1
  have HB := Aside0.mk hB
  have HG := Aside0.mk hg
  have HX := Aside0.mk hx
  have HBX := Aside0.mk hbox
  have HGM := Aside0.mk hgm
  have HW : ∀ v1 v2 : Value, Aside0 (((w.setCell ⟨g, 1, none⟩ v1).setCell ⟨p, 1, none⟩ v2).heap[p]? = some (.cells #[.int .i64 b.budget, v2, .int .i64 b.time, .int .i64 b.last, .map (some q.mb), q.lv, q.ev] 60)) := fun v1 v2 => ⟨by
    have h1 : (w.setCell ⟨g, 1, none⟩ v1).heap[p]? = some _ := blk_far hB.head (Ne.symm hgp) v1
    have := blk_set h1 1 v2
    simpa using this⟩
  have HWg : ∀ v1 v2 : Value, Aside0 (((w.setCell ⟨g, 1, none⟩ v1).setCell ⟨p, 1, none⟩ v2).heap[g]? = some (.cells #[.int .i64 x.2.limit, v1, .int .i64 x.2.leased] 64)) := fun v1 v2 => ⟨by
    have h1 : ((w.setCell ⟨g, 1, none⟩ v1).setCell ⟨p, 1, none⟩ v2).heap[g]? = some _ := blk_far (blk_set hbox 1 v1) hgp v2
    have := h1
    simpa [accCells] using this⟩
  have HU : ∀ v1 v2 : Value, Aside0 (Upd (fun k => k = g ∨ k = p) w ((w.setCell ⟨g, 1, none⟩ v1).setCell ⟨p, 1, none⟩ v2)) := fun v1 v2 => ⟨((Upd.refl _ _).setCell ⟨g, 1, none⟩ (.inl (.inl rfl)) v1).setCell ⟨p, 1, none⟩ (.inl (.inr rfl)) v2⟩
  have hE : ∀ v1 v2 : Value, Aside0 (((w.setCell ⟨g, 1, none⟩ v1).setCell ⟨p, 1, none⟩ v2).ownsRow 0 67 6 q.ev b.entries.length (flat b.entries)) := fun v1 v2 => ⟨by
    have h1 : (w.setCell ⟨g, 1, none⟩ v1).ownsRow 0 67 6 q.ev b.entries.length (flat b.entries) := by
      refine own_setCell hB.entries ?_ v1
      exact fun e => hgev e
    refine own_setCell h1 ?_ v2
    exact fun e => hpev e⟩
  clear hB hg hx hx' hbox hgm
  by_cases hn : 0 ≤ n
  · rw [if_pos hn, if_pos hn]
    have hdn : decide (n ≥ 0) = true := decide_eq_true hn
    go_enter Try.func51, Try.ntmps51
    go_wp2_with fail
    refine (note p _ _ _ _ _ _ q.ev b.entries 3 owner 0 n 0 0 _ HB.out.few HB.out.plain (HW _ _).out (hE _ _).out).mono ?_
    rintro e w3 ⟨rfl, ev', n1, n2, n3, n4⟩
    have HD := Aside0.mk (hold_done HB.out HG.out HX.out (HWg _ _).out (HU _ _).out n1 n2 n3 n4)
    clear n1 n2 n3 n4
    go_wp2_with fail
    go_end0
    exact ⟨rfl, _, HD.out⟩
  · rw [if_neg hn, if_neg hn]
    have hdn : decide (n ≥ 0) = false := decide_eq_false hn
    go_enter Try.func51, Try.ntmps51
    go_wp2_with fail
    refine (note p _ _ _ _ _ _ q.ev b.entries 4 owner 0 (-n) 0 0 _ HB.out.few HB.out.plain (HW _ _).out (hE _ _).out).mono ?_
    rintro e w3 ⟨rfl, ev', n1, n2, n3, n4⟩
    have HD := Aside0.mk (hold_done HB.out HG.out HX.out (HWg _ _).out (HU _ _).out n1 n2 n3 n4)
    clear n1 n2 n3 n4
    go_wp2_with fail
    go_end0
    exact ⟨rfl, _, HD.out⟩
end Go.Proofs.Yticbjaclnneaoaa.Book
