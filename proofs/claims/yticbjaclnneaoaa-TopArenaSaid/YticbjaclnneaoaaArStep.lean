/- Arenas: a step; one element more in one of its rows; a field that is set. -/
import Derived.Test.YticbjaclnneaoaaArNew
namespace Go.Proofs.Yticbjaclnneaoaa.Arena
set_option linter.unusedVariables false
open Go.RowKit Go.Proofs.YticbjaclnneaoaaW.PrintWords Go.Proofs.YticbjaclnneaoaaW.PrintLast Go.Proofs.YticbjaclnneaoaaW.PrintMore Go.Proofs.Yticbjaclnneaoaa.Book Go.Proofs.Yticbjaclnneaoaa.Oct Go.Proofs.Yticbjaclnneaoaa.Pure
set_option linter.unusedSimpArgs false

/-- From one state to the next: what is there, and which blocks were written. -/
structure Step (w w' : World) (aa p : Nat) (k s m size : Int) (S : ArS) (q : Parts) (S' : ArS) (b' : BookS) (q' : Parts) : Prop where
  arena : ArenaAt w' aa p 1 k s m size S'
  book : BookAt w' p b' q'
  upd : Upd (fun j => AFoot aa S j ∨ q.Foot p j) w w'
  footA : ∀ j, AFoot aa S' j → AFoot aa S j ∨ w.heap.size ≤ j
  footB : ∀ j, q'.Foot p j → q.Foot p j ∨ w.heap.size ≤ j
section
variable {w w1 w2 : World} {aa p : Nat} {k s m size : Int} {S S1 S2 : ArS} {b b1 b2 : BookS} {q q1 q2 : Parts}
theorem Step.refl (hA : ArenaAt w aa p 1 k s m size S) (hB : BookAt w p b q) : Step w w aa p k s m size S q S b q := ⟨hA, hB, Upd.refl _ _, fun j h => .inl h, fun j h => .inl h⟩
theorem Step.below (h : Step w w1 aa p k s m size S q S1 b1 q1) (hb : Below w1.heap.size w1 w2) : Step w w2 aa p k s m size S q S1 b1 q1 :=
  ⟨h.arena.below hb, h.book.frame (fun j hj => hb.block j (h.book.lt hj)), h.upd.then (Upd.of_below (S := fun j => AFoot aa S j ∨ q.Foot p j) hb) (fun j hj => .inl hj), h.footA, h.footB⟩
theorem Step.trans (h : Step w w1 aa p k s m size S q S1 b1 q1) (h2 : Step w1 w2 aa p k s m size S1 q1 S2 b2 q2) : Step w w2 aa p k s m size S q S2 b2 q2 :=
  ⟨h2.arena, h2.book, h.upd.then h2.upd (fun j hj => by
      rcases hj with hj | hj
      · exact (h.footA j hj).imp .inl id
      · exact (h.footB j hj).imp .inr id),
   fun j hj => (h2.footA j hj).elim (h.footA j) (fun e => .inr (Nat.le_trans h.upd.size e)), fun j hj => (h2.footB j hj).elim (h.footB j) (fun e => .inr (Nat.le_trans h.upd.size e))⟩
end

/-- append(v, x) of one element that lies in a block of its own, v a row of one's own: in a list of operations. -/
theorem list_append_own {P : Program} {ops : Array Oper} {rest : List Oper} {o : Oper} {a : Act} {w : World} {Q : Exit → Act → World → Prop}
    (hg : o.guard = none) (s x : Operand) (t : TypeId) (hop : o.op = Op.call { callee := Callee.builtin Builtin.append, args := #[s, x], argTypes := #[t, t] })
    (e : TypeId) (z : Value) (size bytes : Nat) (ht : P.underlying t = some (.slice e)) (hinfo : (P.info? e).map (fun i => (i.zero, i.size, i.bytes)) = some (some z, size, bytes)) (hz : z.cells.size = size) (hs0 : 0 < size) (hb0 : 0 < bytes)
    (v : Value) (n : Nat) (xs ys : List Value) (hs : a.eval s = v) (g0 : Nat) (hx : a.eval x = .slice (some ⟨g0, 0, none⟩) 1 1) (hys : ys.length = size) (h1 : ∀ u ∈ ys, u.oneCell' = true)
    (hb : w.heap[g0]? = some (.cells ys.toArray e)) (HO : w.ownsRow 0 e size v n xs) (hl : (n + 1) * bytes ≤ 140737488355328)
    (hK : ∀ g cap w1, w1.ownsRow 0 e size (.slice (some ⟨g, 0, none⟩) (n + 1) cap) (n + 1) (xs ++ ys) → w.grownBy w1 v.ownBlock → (some g = v.ownBlock ∨ w.heap.size ≤ g) → wpList P ops Q rest (a.put o.dst (.slice (some ⟨g, 0, none⟩) (n + 1) cap)) w1) :
    wpList P ops Q (o :: rest) a w := by
  refine wpList_plain hg fun K h => ?_
  have := step_append_own (ops := ops) (o := o) (a := a) (w := w) (K := K) (Q := Q) (E := True) hg s x t hop e z size bytes ht hinfo hz hs0 hb0 v n xs ys hs g0 hx hys h1 hb HO hl (fun g cap w1 h1 h2 h3 => h _ _ (hK g cap w1 h1 h2 h3))
  rwa [if_pos (by simp [Region.wanted, hg])] at this

section
variable {w W w1 : World} {aa p : Nat} {o k s m size : Int} {S : ArS}
theorem ArenaAt.neC (h : ArenaAt w aa p o k s m size S) : some aa ≠ S.cv.ownBlock := own_ne h.ownC h.head (by decide)
theorem ArenaAt.neR (h : ArenaAt w aa p o k s m size S) : some aa ≠ S.rv.ownBlock := own_ne h.ownR h.head (by decide)
theorem ArenaAt.neM (h : ArenaAt w aa p o k s m size S) : some aa ≠ S.mv.ownBlock := own_ne h.ownM h.head (by decide)
theorem ArenaAt.neg (h : ArenaAt w aa p o k s m size S) {c : Chu} (hc : c ∈ S.cs) : c.g ≠ aa := fun e => by
  have := h.rows c hc
  unfold Row at this
  rw [e, h.head] at this
  injection this with this
  injection this with _ this _
  exact absurd this (by decide)
theorem ArenaAt.negC (h : ArenaAt w aa p o k s m size S) {c : Chu} (hc : c ∈ S.cs) : some c.g ≠ S.cv.ownBlock := own_ne h.ownC (h.rows c hc) (by decide)
theorem ArenaAt.negR (h : ArenaAt w aa p o k s m size S) {c : Chu} (hc : c ∈ S.cs) : some c.g ≠ S.rv.ownBlock := own_ne h.ownR (h.rows c hc) (by decide)
theorem ArenaAt.negM (h : ArenaAt w aa p o k s m size S) {c : Chu} (hc : c ∈ S.cs) : some c.g ≠ S.mv.ownBlock := own_ne h.ownM (h.rows c hc) (by decide)
theorem ne_blocks {v v' : Value} (h : NeRow v v') {j : Nat} (hj : some j = v.ownBlock) : some j ≠ v'.ownBlock := fun e => h j hj.symm e.symm
theorem ArenaAt.neCR (h : ArenaAt w aa p o k s m size S) : NeRow S.cv S.rv := ne_types h.ownC h.ownR (by decide)
theorem ArenaAt.neCM (h : ArenaAt w aa p o k s m size S) : NeRow S.cv S.mv := ne_types h.ownC h.ownM (by decide)
theorem ArenaAt.neRM (h : ArenaAt w aa p o k s m size S) : NeRow S.rv S.mv := ne_types h.ownR h.ownM (by decide)
theorem ne_sym {v v' : Value} (h : NeRow v v') : NeRow v' v := fun k h1 h2 => h k h2 h1

/-- What lies behind an append to the row v and a store to a field. -/
theorem far_of {v : Value} {i : Nat} {u : Value} (hW : Below w.heap.size w W) (hg : W.grownBy w1 v.ownBlock) {j : Nat} (hj : j < w.heap.size) (h1 : j ≠ aa) (h2 : some j ≠ v.ownBlock) : (w1.setCell ⟨aa, i, none⟩ u).heap[j]? = w.heap[j]? := by
  rw [Below.heap_setCell w1 ⟨aa, i, none⟩ u j h1, hg.block j (Nat.lt_of_lt_of_le hj hW.size) h2]
  exact hW.block j hj
theorem upd_of {v : Value} {i : Nat} {u : Value} (hW : Below w.heap.size w W) (hg : W.grownBy w1 v.ownBlock) {T : Nat → Prop} (ha : T aa) (hv : ∀ j, some j = v.ownBlock → T j) : Upd T w (w1.setCell ⟨aa, i, none⟩ u) :=
  ((Upd.of_below hW).then (Upd.of_grown (S := fun j => some j = v.ownBlock) hg (fun j hj => hj)) (fun j hj => .inl (hv j hj))).setCell ⟨aa, i, none⟩ (.inl ha) _

/-- One chunk more. -/
theorem ArenaAt.putC (h : ArenaAt w aa p o k s m size S) (hW : Below w.heap.size w W) {g cap : Nat} {c : Chu} (hc : Row W c.g c.ys) (hcn : w.heap.size ≤ c.g)
    (ho : w1.ownsRow 0 46 1 (.slice (some ⟨g, 0, none⟩) (S.cs.length + 1) cap) (S.cs.length + 1) (rowsOf Chu.cells S.cs ++ c.cells)) (hg : W.grownBy w1 S.cv.ownBlock) (hf : some g = S.cv.ownBlock ∨ W.heap.size ≤ g) :
    ArenaAt (w1.setCell ⟨aa, 7, none⟩ (.slice (some ⟨g, 0, none⟩) (S.cs.length + 1) cap)) aa p o k s m size { S with cv := .slice (some ⟨g, 0, none⟩) (S.cs.length + 1) cap, cs := S.cs ++ [c] } ∧ Upd (AFoot aa S) w (w1.setCell ⟨aa, 7, none⟩ (.slice (some ⟨g, 0, none⟩) (S.cs.length + 1) cap)) ∧ (∀ j, AFoot aa { S with cv := .slice (some ⟨g, 0, none⟩) (S.cs.length + 1) cap, cs := S.cs ++ [c] } j → AFoot aa S j ∨ w.heap.size ≤ j) := by
  have hsz := hW.size
  have hla := blk_lt h.head
  have hga : g ≠ aa := by
    rcases hf with e | e
    · intro e2; rw [e2] at e; exact h.neC e
    · omega
  have hca : aa ≠ c.g := by omega
  have hcv : some c.g ≠ S.cv.ownBlock := fun e => by have := own_lt' h.ownC e; omega
  have hcg : g ≠ c.g := fun e => by
    have h1 := blk_grown hc hg hcv
    obtain ⟨cur, h2⟩ := own_typed ho g rfl
    rw [e, h1] at h2
    injection h2 with h2
    injection h2 with _ h2 _
    exact absurd h2 (by decide)
  refine ⟨⟨?_, ?_, ?_, ?_, ?_, ?_⟩, upd_of hW hg (.inl rfl) (fun j hj => .inr (.inl hj)), fun j hj => ?_⟩
  · have := blk_set (blk_grown ((hW.block aa hla).trans h.head) hg h.neC) 7 (.slice (some ⟨g, 0, none⟩) (S.cs.length + 1) cap)
    simpa [arenaCells] using this
  · have := own_setCell ho (p := ⟨aa, 7, none⟩) (by simpa [Value.ownBlock] using Ne.symm hga) (.slice (some ⟨g, 0, none⟩) (S.cs.length + 1) cap)
    simp only [rowsOf_app, rowsOf_single, List.length_append, List.length_singleton]
    exact this
  · exact own_frame h.ownR (fun j hj => far_of hW hg (own_lt' h.ownR hj) (fun e => h.neR (e ▸ hj)) (ne_blocks (ne_sym h.neCR) hj))
  · exact own_frame h.ownM (fun j hj => far_of hW hg (own_lt' h.ownM hj) (fun e => h.neM (e ▸ hj)) (ne_blocks (ne_sym h.neCM) hj))
  · intro d hd
    rcases List.mem_append.1 hd with hd | hd
    · exact (far_of hW hg (h.rows d hd).lt (h.neg hd) (h.negC hd)).trans (h.rows d hd)
    · rw [List.mem_singleton.1 hd]
      exact Row.far (blk_grown hc hg hcv) ⟨aa, 7, none⟩ (Ne.symm hca) _
  · simp only [List.map_append, List.map_cons, List.map_nil]
    rw [List.nodup_append]
    refine ⟨h.apart, by simp, fun a ha b hb e => ?_⟩
    obtain ⟨d, hd, rfl⟩ := List.mem_map.1 ha
    have := (h.rows d hd).lt
    have : b = c.g := by simpa using hb
    omega
  · rcases hj with hj | hj | hj | hj | hj
    · exact .inl (.inl hj)
    · have : j = g := by simpa [Value.ownBlock] using hj
      subst this
      rcases hf with e | e
      · exact .inl (.inr (.inl e))
      · exact .inr (by omega)
    · exact .inl (.inr (.inr (.inl hj)))
    · exact .inl (.inr (.inr (.inr (.inl hj))))
    · simp only [List.map_append, List.map_cons, List.map_nil, List.mem_append, List.mem_singleton] at hj
      rcases hj with hj | hj
      · exact .inl (.inr (.inr (.inr (.inr hj))))
      · exact .inr (by omega)

/-- One region more. -/
theorem ArenaAt.putR (h : ArenaAt w aa p o k s m size S) (hW : Below w.heap.size w W) {g cap : Nat} {x : Reg}
    (ho : w1.ownsRow 0 82 4 (.slice (some ⟨g, 0, none⟩) (S.rs.length + 1) cap) (S.rs.length + 1) (rowsOf Reg.cells S.rs ++ x.cells)) (hg : W.grownBy w1 S.rv.ownBlock) (hf : some g = S.rv.ownBlock ∨ W.heap.size ≤ g) :
    ArenaAt (w1.setCell ⟨aa, 8, none⟩ (.slice (some ⟨g, 0, none⟩) (S.rs.length + 1) cap)) aa p o k s m size { S with rv := .slice (some ⟨g, 0, none⟩) (S.rs.length + 1) cap, rs := S.rs ++ [x] } ∧ Upd (AFoot aa S) w (w1.setCell ⟨aa, 8, none⟩ (.slice (some ⟨g, 0, none⟩) (S.rs.length + 1) cap)) ∧ (∀ j, AFoot aa { S with rv := .slice (some ⟨g, 0, none⟩) (S.rs.length + 1) cap, rs := S.rs ++ [x] } j → AFoot aa S j ∨ w.heap.size ≤ j) := by
  have hsz := hW.size
  have hla := blk_lt h.head
  have hga : g ≠ aa := by
    rcases hf with e | e
    · intro e2; rw [e2] at e; exact h.neR e
    · omega
  refine ⟨⟨?_, ?_, ?_, ?_, ?_, h.apart⟩, upd_of hW hg (.inl rfl) (fun j hj => .inr (.inr (.inl hj))), fun j hj => ?_⟩
  · have := blk_set (blk_grown ((hW.block aa hla).trans h.head) hg h.neR) 8 (.slice (some ⟨g, 0, none⟩) (S.rs.length + 1) cap)
    simpa [arenaCells] using this
  · exact own_frame h.ownC (fun j hj => far_of hW hg (own_lt' h.ownC hj) (fun e => h.neC (e ▸ hj)) (ne_blocks h.neCR hj))
  · have := own_setCell ho (p := ⟨aa, 8, none⟩) (by simpa [Value.ownBlock] using Ne.symm hga) (.slice (some ⟨g, 0, none⟩) (S.rs.length + 1) cap)
    simp only [rowsOf_app, rowsOf_single, List.length_append, List.length_singleton]
    exact this
  · exact own_frame h.ownM (fun j hj => far_of hW hg (own_lt' h.ownM hj) (fun e => h.neM (e ▸ hj)) (ne_blocks (ne_sym h.neRM) hj))
  · exact fun d hd => (far_of hW hg (h.rows d hd).lt (h.neg hd) (h.negR hd)).trans (h.rows d hd)
  · rcases hj with hj | hj | hj | hj | hj
    · exact .inl (.inl hj)
    · exact .inl (.inr (.inl hj))
    · have : j = g := by simpa [Value.ownBlock] using hj
      subst this
      rcases hf with e | e
      · exact .inl (.inr (.inr (.inl e)))
      · exact .inr (by omega)
    · exact .inl (.inr (.inr (.inr (.inl hj))))
    · exact .inl (.inr (.inr (.inr (.inr hj))))

/-- One mark more. -/
theorem ArenaAt.putM (h : ArenaAt w aa p o k s m size S) (hW : Below w.heap.size w W) {g cap : Nat} {x : Mrk}
    (ho : w1.ownsRow 0 76 3 (.slice (some ⟨g, 0, none⟩) (S.ms.length + 1) cap) (S.ms.length + 1) (rowsOf Mrk.cells S.ms ++ x.cells)) (hg : W.grownBy w1 S.mv.ownBlock) (hf : some g = S.mv.ownBlock ∨ W.heap.size ≤ g) :
    ArenaAt (w1.setCell ⟨aa, 9, none⟩ (.slice (some ⟨g, 0, none⟩) (S.ms.length + 1) cap)) aa p o k s m size { S with mv := .slice (some ⟨g, 0, none⟩) (S.ms.length + 1) cap, ms := S.ms ++ [x] } ∧ Upd (AFoot aa S) w (w1.setCell ⟨aa, 9, none⟩ (.slice (some ⟨g, 0, none⟩) (S.ms.length + 1) cap)) ∧ (∀ j, AFoot aa { S with mv := .slice (some ⟨g, 0, none⟩) (S.ms.length + 1) cap, ms := S.ms ++ [x] } j → AFoot aa S j ∨ w.heap.size ≤ j) := by
  have hsz := hW.size
  have hla := blk_lt h.head
  have hga : g ≠ aa := by
    rcases hf with e | e
    · intro e2; rw [e2] at e; exact h.neM e
    · omega
  refine ⟨⟨?_, ?_, ?_, ?_, ?_, h.apart⟩, upd_of hW hg (.inl rfl) (fun j hj => .inr (.inr (.inr (.inl hj)))), fun j hj => ?_⟩
  · have := blk_set (blk_grown ((hW.block aa hla).trans h.head) hg h.neM) 9 (.slice (some ⟨g, 0, none⟩) (S.ms.length + 1) cap)
    simpa [arenaCells] using this
  · exact own_frame h.ownC (fun j hj => far_of hW hg (own_lt' h.ownC hj) (fun e => h.neC (e ▸ hj)) (ne_blocks h.neCM hj))
  · exact own_frame h.ownR (fun j hj => far_of hW hg (own_lt' h.ownR hj) (fun e => h.neR (e ▸ hj)) (ne_blocks h.neRM hj))
  · have := own_setCell ho (p := ⟨aa, 9, none⟩) (by simpa [Value.ownBlock] using Ne.symm hga) (.slice (some ⟨g, 0, none⟩) (S.ms.length + 1) cap)
    simp only [rowsOf_app, rowsOf_single, List.length_append, List.length_singleton]
    exact this
  · exact fun d hd => (far_of hW hg (h.rows d hd).lt (h.neg hd) (h.negM hd)).trans (h.rows d hd)
  · rcases hj with hj | hj | hj | hj | hj
    · exact .inl (.inl hj)
    · exact .inl (.inr (.inl hj))
    · exact .inl (.inr (.inr (.inl hj)))
    · have : j = g := by simpa [Value.ownBlock] using hj
      subst this
      rcases hf with e | e
      · exact .inl (.inr (.inr (.inr (.inl e))))
      · exact .inr (by omega)
    · exact .inl (.inr (.inr (.inr (.inr hj))))

/-- A field that is set. -/
theorem ArenaAt.setF (h : ArenaAt w aa p o k s m size S) (i : Nat) (u : Value) {S' : ArS} (hh : (w.setCell ⟨aa, i, none⟩ u).heap[aa]? = some (arenaCells p o k s m size false S')) (hC : (w.setCell ⟨aa, i, none⟩ u).ownsRow 0 46 1 S'.cv S'.cs.length (rowsOf Chu.cells S'.cs)) (hR : (w.setCell ⟨aa, i, none⟩ u).ownsRow 0 82 4 S'.rv S'.rs.length (rowsOf Reg.cells S'.rs)) (hM : (w.setCell ⟨aa, i, none⟩ u).ownsRow 0 76 3 S'.mv S'.ms.length (rowsOf Mrk.cells S'.ms)) (hcs : S'.cs = S.cs) : ArenaAt (w.setCell ⟨aa, i, none⟩ u) aa p o k s m size S' :=
  ⟨hh, hC, hR, hM, fun c hc => by rw [hcs] at hc; exact (h.rows c hc).far ⟨aa, i, none⟩ (h.neg hc) _, by rw [hcs]; exact h.apart⟩
theorem ArenaAt.setC_ (h : ArenaAt w aa p o k s m size S) (i : Nat) (u : Value) : (w.setCell ⟨aa, i, none⟩ u).ownsRow 0 46 1 S.cv S.cs.length (rowsOf Chu.cells S.cs) := own_setCell h.ownC h.neC _
theorem ArenaAt.setR_ (h : ArenaAt w aa p o k s m size S) (i : Nat) (u : Value) : (w.setCell ⟨aa, i, none⟩ u).ownsRow 0 82 4 S.rv S.rs.length (rowsOf Reg.cells S.rs) := own_setCell h.ownR h.neR _
theorem ArenaAt.setM_ (h : ArenaAt w aa p o k s m size S) (i : Nat) (u : Value) : (w.setCell ⟨aa, i, none⟩ u).ownsRow 0 76 3 S.mv S.ms.length (rowsOf Mrk.cells S.ms) := own_setCell h.ownM h.neM _
theorem ArenaAt.setLr (h : ArenaAt w aa p o k s m size S) (n : Nat) : ArenaAt (w.setCell ⟨aa, 10, none⟩ (.int .i64 n)) aa p o k s m size { S with lr := n } :=
  h.setF 10 _ (by have := blk_set h.head 10 (.int .i64 n); simpa [arenaCells] using this) (h.setC_ _ _) (h.setR_ _ _) (h.setM_ _ _) rfl
theorem ArenaAt.setLm (h : ArenaAt w aa p o k s m size S) (n : Nat) : ArenaAt (w.setCell ⟨aa, 11, none⟩ (.int .i64 n)) aa p o k s m size { S with lm := n } :=
  h.setF 11 _ (by have := blk_set h.head 11 (.int .i64 n); simpa [arenaCells] using this) (h.setC_ _ _) (h.setR_ _ _) (h.setM_ _ _) rfl
theorem ArenaAt.setPk (h : ArenaAt w aa p o k s m size S) (n : Nat) : ArenaAt (w.setCell ⟨aa, 12, none⟩ (.int .i64 n)) aa p o k s m size { S with pk := n } :=
  h.setF 12 _ (by have := blk_set h.head 12 (.int .i64 n); simpa [arenaCells] using this) (h.setC_ _ _) (h.setR_ _ _) (h.setM_ _ _) rfl
end
theorem foot_same {aa : Nat} {S S' : ArS} (h1 : S'.cv = S.cv) (h2 : S'.rv = S.rv) (h3 : S'.mv = S.mv) (h4 : S'.cs.map (·.g) = S.cs.map (·.g)) (j : Nat) : AFoot aa S' j → AFoot aa S j := by
  unfold AFoot
  rw [h1, h2, h3, h4]
  exact id
end Go.Proofs.Yticbjaclnneaoaa.Arena
