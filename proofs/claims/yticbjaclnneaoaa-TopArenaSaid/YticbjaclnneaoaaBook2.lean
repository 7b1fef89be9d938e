/- The book: note at every length, and what takes and gives. -/
import Derived.Test.YticbjaclnneaoaaBook
import Derived.Lib.LazyBuf
namespace Go.Proofs.Yticbjaclnneaoaa.Book
set_option linter.unusedVariables false
open Go.RowKit Go.Proofs.YticbjaclnneaoaaW.PrintWords Go.Proofs.YticbjaclnneaoaaW.PrintLast Go.Proofs.YticbjaclnneaoaaW.PrintMore Go.Proofs.Yticbjaclnneaoaa.MapInt
set_option linter.unusedSimpArgs false

/-- An entry's cells. -/
def ent (e0 e1 e2 e3 e4 e5 : Int) : List Value := [.int .i64 e0, .int .i64 e1, .int .i64 e2, .int .i64 e3, .int .i64 e4, .int .i64 e5]
/-- The entries behind one more. -/
def noteL (es : List (List Value)) (e : List Value) : List (List Value) := if es.length < 10000 then es ++ [e] else (es ++ [e]).drop 5001
theorem noteL_few (es : List (List Value)) (e : List Value) (h : es.length ≤ 10000) : (noteL es e).length ≤ 10000 := by
  unfold noteL; split
  · simp; omega
  · simp; omega
theorem noteL_mem {es : List (List Value)} {e x : List Value} (h : x ∈ noteL es e) : x ∈ es ∨ x = e := by
  unfold noteL at h; split at h
  · simpa using h
  · have := List.mem_of_mem_drop h
    simpa using this
theorem flat_length (es : List (List Value)) (h : ∀ x ∈ es, x.length = 6) : (flat es).length = es.length * 6 := by
  induction es with
  | nil => rfl
  | cons a l ih =>
    have := ih (fun x hx => h x (by simp [hx]))
    have h2 := h a (by simp)
    simp only [flat, List.flatten_cons, List.length_append, List.length_cons] at this ⊢
    omega
theorem flat_drop (es : List (List Value)) (k : Nat) (h : ∀ x ∈ es, x.length = 6) : flat (es.drop k) = (flat es).drop (k * 6) := by
  induction k generalizing es with
  | zero => simp
  | succ k ih =>
    cases es with
    | nil => simp [flat]
    | cons a l =>
      have h2 := h a (by simp)
      rw [List.drop_succ_cons, ih l (fun x hx => h x (by simp [hx]))]
      simp only [flat, List.flatten_cons]
      have e : List.drop ((k + 1) * 6) a = [] := List.drop_eq_nil_of_le (by omega)
      rw [List.drop_append, e, h2, List.nil_append, show (k + 1) * 6 - 6 = k * 6 by omega]
theorem flat_one {es : List (List Value)} (h : ∀ x ∈ es, ∀ u ∈ x, u.oneCell' = true) : ∀ u ∈ flat es, u.oneCell' = true := by
  intro u hu
  simp only [flat, List.mem_flatten] at hu
  obtain ⟨x, hx, hux⟩ := hu
  exact h x hx u hux

theorem own_zero (w : World) (e : TypeId) (size : Nat) : (w.alloc (.cells #[] e)).ownsRow w.heap.size e size (.slice (some ⟨w.heap.size, 0, none⟩) 0 0) 0 [] :=
  ⟨by simp, .inr ⟨w.heap.size, 0, #[], rfl, Nat.le_refl _, blk_new _ _, by simp⟩⟩

set_option maxHeartbeats 1000000 in
set_option maxRecDepth 100000 in
/-- Clone of entries. -/
theorem cloneE (ad : Addr) (m c : Nat) (ys : List Value) (w : World) (hl : ys.length = m * 6) (hm : 0 < m) (hm2 : m ≤ 20000) (h1 : ∀ u ∈ ys, u.oneCell' = true) (hc : ∀ j v, ys[j]? = some v → w.cell? (ad.add j) = some v) :
    Calls Try.prog 40 #[.slice (some ad) m c] w fun e w' => ∃ g cap, e = .returned (.slice (some ⟨g, 0, none⟩) m cap) ∧ w.heap.size ≤ g ∧
      w'.ownsRow 0 67 6 (.slice (some ⟨g, 0, none⟩) m cap) m ys ∧ Below w.heap.size w w' := by
  obtain ⟨i0, hi, hz0, hz1, hz2⟩ := info_parts infoE
  have HC := Aside0.mk hc
  have HL := Lib.hid hl
  have H1 := Aside0.mk h1
  have HO := Aside0.mk (own_zero w 67 6)
  have he := fun u : World => run_eql_slice_nil (P := Try.prog) u 58 67 (some ad) m c Try.underlying58
  clear hc hl h1
  go_enter Try.func40, Try.ntmps40
  go_wp2_with (at_builtin; refine wpList_append_own _ rfl (.tmp 5) (.tmp 6) 58 rfl w.heap.size 67 i0 _ 6 48 Try.underlying58 hi hz0 hz1 hz2 rfl (by decide) (.slice (some ⟨w.heap.size, 0, none⟩) 0 0) 0 [] rfl HO.out ad m c ys rfl HL.out (fun j v hj => pw_cell_below (below_alloc (Below.refl _ _) _) (HC.out j v hj)) H1.out (by simp only [maxLen]; omega) (by omega) (by simp) ?_; intro v' w1 ho hg _; have HO1 := Aside0.mk ho; have HG1 := Aside0.mk hg; clear ho hg)
  go_ret
  obtain ⟨hx, ⟨_, h0⟩ | ⟨g, cap, cur, rfl, h1, h2, h3, h4, h5, h6⟩⟩ := HO1.out
  · omega
  · refine ⟨g, cap, by simp, h1, ?_, ?_⟩
    · have := (show World.ownsRow _ 0 67 6 (.slice (some ⟨g, 0, none⟩) (0 + m) cap) (0 + m) ([] ++ ys) from ⟨hx, .inr ⟨g, cap, cur, rfl, Nat.zero_le _, h2, h3, h4, h5, h6⟩⟩)
      simpa using this
    · exact pw_below_grown (below_alloc (Below.refl _ _) _) _ (by simp) HG1.out (fun k hk => by simp [Value.ownBlock] at hk; omega)

/-- A row's cells from an element on. -/
theorem own_cells {w : World} {base e size n c : Nat} {A : Option Addr} {xs : List Value} (h : w.ownsRow base e size (.slice A n c) n xs) (h0 : 0 < n) : ∃ g, A = some ⟨g, 0, none⟩ ∧ n ≤ c ∧ c ≤ maxLen ∧ (∀ k v, xs[k]? = some v → w.cell? ⟨g, k, none⟩ = some v) ∧ g < w.heap.size := by
  obtain ⟨hl, ⟨_, rfl⟩ | ⟨g, cap, cur, hv, h1, h2, h3, h4, h5, h6⟩⟩ := h
  · omega
  · obtain ⟨rfl, rfl⟩ : A = some ⟨g, 0, none⟩ ∧ c = cap := by simpa using hv
    refine ⟨g, rfl, h3, h4, fun k v hk => ?_, blk_lt h2⟩
    rw [blk_cell h2 k, ← hk, ← h6]
    have hlt : k < n * size := by
      by_cases hc : k < n * size
      · exact hc
      · rw [List.getElem?_eq_none (by omega)] at hk; cases hk
    rw [List.getElem?_take_of_lt hlt]
    simp

theorem ent_one {e0 e1 e2 e3 e4 e5 : Int} : ∀ u ∈ ent e0 e1 e2 e3 e4 e5, u.oneCell' = true := by
  intro u hu
  simp only [ent, List.mem_cons, List.not_mem_nil, or_false] at hu
  rcases hu with rfl | rfl | rfl | rfl | rfl | rfl <;> rfl

theorem ent_length (e0 e1 e2 e3 e4 e5 : Int) : (ent e0 e1 e2 e3 e4 e5).length = 6 := rfl
theorem ent_drop {cs : List Value} {e0 e1 e2 e3 e4 e5 : Int} (h : cs.length = 10000 * 6) : ((cs ++ ent e0 e1 e2 e3 e4 e5).drop 30006).length = 5000 * 6 := by
  rw [List.length_drop, List.length_append, ent_length]
  omega
theorem note_done2 {w w2 w3 : World} {p g g3 cap cap3 n : Nat} {c0 c1 c2 c3 c4 c5 ev : Value} {cs : List Value} {e : Nat}
    (hb : w2.heap[p]? = some (.cells #[c0, c1, c2, c3, c4, c5, .slice (some ⟨g, 0, none⟩) (10000 + 1) cap] 60)) (hu : Upd (fun k => k = p ∨ some k = ev.ownBlock) w w2) (hpl : p < w.heap.size) (hb3 : Below w2.heap.size w2 w3) (hy3 : w2.heap.size ≤ g3)
    (ho3 : w3.ownsRow 0 e 6 (.slice (some ⟨g3, 0, none⟩) n cap3) n cs) (hp3 : w3.heap[p]? = some (.cells #[c0, c1, c2, c3, c4, c5, .slice (some ⟨g, 0, none⟩) 10001 cap] 60)) :
    (w3.setCell ⟨p, 6, none⟩ (.slice (some ⟨g3, 0, none⟩) n cap3)).heap[p]? = some (.cells #[c0, c1, c2, c3, c4, c5, .slice (some ⟨g3, 0, none⟩) n cap3] 60) ∧
      (w3.setCell ⟨p, 6, none⟩ (.slice (some ⟨g3, 0, none⟩) n cap3)).ownsRow 0 e 6 (.slice (some ⟨g3, 0, none⟩) n cap3) n cs ∧
      Upd (fun k => k = p ∨ some k = ev.ownBlock) w (w3.setCell ⟨p, 6, none⟩ (.slice (some ⟨g3, 0, none⟩) n cap3)) ∧
      (∀ k, some k = (Value.slice (some ⟨g3, 0, none⟩) n cap3).ownBlock → some k = ev.ownBlock ∨ w.heap.size ≤ k) := by
  have hpl2 := blk_lt hb
  have hs := hu.size
  refine ⟨?_, own_setCell ho3 (by simp [Value.ownBlock]; omega) _, ?_, ?_⟩
  · have := blk_set hp3 6 (.slice (some ⟨g3, 0, none⟩) n cap3)
    simpa using this
  · exact (hu.then (Upd.of_below (S := fun _ => False) hb3) (fun k hk => hk.elim)).setCell ⟨p, 6, none⟩ (.inl (.inl rfl)) _
  · intro k hk
    have : k = g3 := by simpa [Value.ownBlock] using hk
    exact .inr (by omega)

set_option maxHeartbeats 2000000 in
set_option maxRecDepth 100000 in
theorem note_full (p : Nat) (c0 c1 c2 c3 c4 c5 ev : Value) (cs : List Value) (e0 e1 e2 e3 e4 e5 : Int) (w : World) (h1 : ∀ u ∈ cs, u.oneCell' = true)
    (hb : w.heap[p]? = some (.cells #[c0, c1, c2, c3, c4, c5, ev] 60)) (ho : w.ownsRow 0 67 6 ev 10000 cs) :
    Calls Try.prog 24 #[.pointer (some ⟨p, 0, none⟩), .agg #[.int .i64 e0, .int .i64 e1, .int .i64 e2, .int .i64 e3, .int .i64 e4, .int .i64 e5]] w fun e w' => e = .returned (.tuple #[]) ∧
      ∃ ev', w'.heap[p]? = some (.cells #[c0, c1, c2, c3, c4, c5, ev'] 60) ∧ w'.ownsRow 0 67 6 ev' 5000 ((cs ++ ent e0 e1 e2 e3 e4 e5).drop 30006) ∧
        Upd (fun k => k = p ∨ some k = ev.ownBlock) w w' ∧ (∀ k, some k = ev'.ownBlock → some k = ev.ownBlock ∨ w.heap.size ≤ k) := by
  have HO := Aside0.mk ho
  have H1 := Aside0.mk h1
  have HL := Lib.hid ho.1
  have hpl := blk_lt hb
  have hc6 : w.cell? ⟨p, 6, none⟩ = some ev := by rw [blk_cell hb]; rfl
  have hne : some p ≠ ev.ownBlock := fun h => by have := own_ne ho hb (by decide); exact this h
  have hf6 : w.frozen? ⟨p, 6, none⟩ = false := blk_frozen hb 6
  clear ho h1
  go_enter Try.func24, Try.ntmps24
  go_wp2
  go_region_law (refine step_append_own rfl (.tmp 9) (.tmp 11) 58 rfl 67 _ 6 48 Try.underlying58 infoE rfl (by decide) (by decide) ev 10000 cs [.int .i64 e0, .int .i64 e1, .int .i64 e2, .int .i64 e3, .int .i64 e4, .int .i64 e5] (by simp [Act.eval]) (w.heap.size + 1) (by simp [Act.eval]) rfl (by simp [Value.oneCell']) (by show ((w.alloc _).alloc _).heap[w.heap.size + 1]? = _; exact two_new _ _ _) (by repeat (first | exact HO.out | apply World.ownsRow.drew | apply World.ownsRow.alloc)) (by omega) ?_; intro g cap w1 ho hgr hat; have hk := keeps_cell hb hne (by show ((w.alloc _).alloc _).heap[p]? = _; exact two_old _ _ _ _ hpl) hgr 6; have hk1 := hk.1; have hk2 := hk.2; clear hk; simp at hk1; have HO1 := Aside0.mk ho; have HG1 := Aside0.mk hgr; have HA1 := Aside0.mk hat; clear ho hgr hat)
  all_goals
    have hdd := note_done (w := w) (by exact below_drew (below_alloc (below_alloc (Below.refl _ _) _) _)) hb hne HO1.out HG1.out HA1.out
    have HD := Aside0.mk hdd
    clear hdd
    clear HG1 HA1 HO1 hk1 hk2
    generalize (w1.setCell ⟨p, 6, none⟩ _) = w2 at HD ⊢
    have hc6 : w2.cell? ⟨p, 6, none⟩ = some (.slice (some ⟨g, 0, none⟩) 10001 cap) := by rw [blk_cell HD.out.1]; rfl
    obtain ⟨g', hg', hcap, _, hcells, hgl⟩ := own_cells HD.out.2.1 (by omega)
    obtain rfl : g = g' := by injection hg' with h; injection h
    have hcap2 : ¬ cap = 5001 := by omega
    have HCL := Aside0.mk hcells
    clear hg' hcells
    go_wp2_with fail
    refine (cloneE ⟨g, 30006, none⟩ 5000 (cap - 5001) ((cs ++ ent e0 e1 e2 e3 e4 e5).drop 30006) w2 (ent_drop HL.out) (by omega) (by omega) (fun u hu => (List.mem_append.1 (List.mem_of_mem_drop hu)).elim (H1.out u) (ent_one u)) (fun j v hj => by rw [List.getElem?_drop] at hj; have := HCL.out (30006 + j) v hj; cases j <;> simpa [Addr.add] using this)).mono ?_
    rintro e w3 ⟨g3, cap3, rfl, hy3, ho3, hb3⟩
    have hp3 : w3.heap[p]? = some (.cells #[c0, c1, c2, c3, c4, c5, .slice (some ⟨g, 0, none⟩) 10001 cap] 60) := (hb3.block p (blk_lt HD.out.1)).trans HD.out.1
    have hf63 : w3.frozen? ⟨p, 6, none⟩ = false := blk_frozen hp3 6
    have hc63 : w3.cell? ⟨p, 6, none⟩ = some (.slice (some ⟨g, 0, none⟩) 10001 cap) := by rw [blk_cell hp3]; rfl
    have HX := Aside0.mk (note_done2 HD.out.1 HD.out.2.2.1 hpl hb3 hy3 ho3 hp3)
    clear hp3 hb3 hy3 ho3 hc6 hcap2
    go_wp2
    go_end0
    exact ⟨rfl, _, HX.out⟩
end Go.Proofs.Yticbjaclnneaoaa.Book
