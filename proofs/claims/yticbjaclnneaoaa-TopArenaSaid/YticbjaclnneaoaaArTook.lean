/- Arenas: what Take does, plain. -/
import Derived.Test.YticbjaclnneaoaaArGrow
import Derived.Lib.SliceRun
namespace Go.Proofs.Yticbjaclnneaoaa.Arena
set_option linter.unusedVariables false
open Go.RowKit Go.Proofs.YticbjaclnneaoaaW.PrintWords Go.Proofs.YticbjaclnneaoaaW.PrintLast Go.Proofs.YticbjaclnneaoaaW.PrintMore Go.Proofs.Yticbjaclnneaoaa.Book Go.Proofs.Yticbjaclnneaoaa.Oct Go.Proofs.Yticbjaclnneaoaa.Pure
set_option linter.unusedSimpArgs false

/-- A region is taken: at b in chunk i. -/
structure Took (S S' : ArS) (n i b : Nat) : Prop where
  lr : S'.lr = S.lr + 1
  lm : S'.lm = S.lm
  ms : S'.ms = S.ms
  rs : S'.rs = S.rs ++ [⟨((S.lr + 1 : Nat) : Int), i, b, b + n⟩]
  cs : ∃ ks c, (S.cs ++ ks)[i]? = some c ∧ b + n ≤ c.ys.length ∧ S'.cs = cput (S.cs ++ ks) i b (List.replicate n 0)
  behind : Behind S.rs i b
  good : Good S'

/-- A place is found: S1 is S, with a chunk more if need be. -/
structure Placed (w w1 : World) (aa p : Nat) (k s m size : Int) (S : ArS) (q : Parts) (S1 : ArS) (b1 : BookS) (q1 : Parts) (sb n i b : Nat) (c : Chu) : Prop where
  step : Step w w1 aa p k s m size S q S1 b1 q1
  one : One b1 (aroom S1.cs)
  spot : w1.heap[sb]? = some (.cells #[.int .i64 i, .int .i64 b, .int .i64 ((b : Int) + (n : Int))] 80)
  young : w.heap.size ≤ sb
  more : ∃ cv ks, S1 = { S with cv := cv, cs := S.cs ++ ks }
  good : Good S1
  at_ : S1.cs[i]? = some c
  fits : b + n ≤ c.ys.length
  behind : Behind S.rs i b

theorem Good.more {S : ArS} (h : Good S) (cv : Value) (c : Chu) (hr : aroom (S.cs ++ [c]) ≤ 100000) (hl : S.cs.length + 1 ≤ 200) : Good { S with cv := cv, cs := S.cs ++ [c] } where
  regs := fun x hx => by
    obtain ⟨d, h1, h2, h3⟩ := h.regs x hx
    exact ⟨d, by simp only; rw [List.getElem?_append_left (List.getElem?_eq_some_iff.1 h1).1]; exact h1, h2, h3⟩
  few := by simpa using hl
  fewR := h.fewR
  fewM := h.fewM
  room := hr
  nos := h.nos
  nol := h.nol
  mnos := h.mnos
  mnol := h.mnol
  many := h.many
  mono := h.mono
  peak := h.peak
theorem cput_reg {cs : List Chu} {i b : Nat} {os : List Int} {c : Chu} (h : cs[i]? = some c) (hb : b + os.length ≤ c.ys.length) {j : Nat} {d : Chu} (hd : cs[j]? = some d) : ∃ d', (cput cs i b os)[j]? = some d' ∧ d'.g = d.g ∧ d'.ys.length = d.ys.length := by
  by_cases hj : j = i
  · subst hj
    rw [h] at hd
    injection hd with hd
    subst hd
    exact ⟨_, cput_get h, rfl, put_len hb⟩
  · exact ⟨d, by rw [cput_get_ne hj]; exact hd, rfl, rfl⟩
/-- What may be written without harm to what is right. -/
theorem Good.put {S : ArS} (h : Good S) {i b : Nat} {os : List Int} {c : Chu} (hc : S.cs[i]? = some c) (hb : b + os.length ≤ c.ys.length) : Good { S with cs := cput S.cs i b os } where
  regs := fun x hx => by
    obtain ⟨d, h1, h2, h3⟩ := h.regs x hx
    obtain ⟨d', e1, e2, e3⟩ := cput_reg hc hb h1
    exact ⟨d', e1, h2, by omega⟩
  few := by simp only [cput_length]; exact h.few
  fewR := h.fewR
  fewM := h.fewM
  room := by simp only; rw [cput_aroom hc hb]; exact h.room
  nos := h.nos
  nol := h.nol
  mnos := h.mnos
  mnol := h.mnol
  many := h.many
  mono := h.mono
  peak := h.peak
theorem Good.region {S : ArS} (h : Good S) {i b n : Nat} {c : Chu} (hc : S.cs[i]? = some c) (hb : b + n ≤ c.ys.length) (rv : Value) (hl : S.rs.length < 2000) : Good { S with rv := rv, lr := S.lr + 1, rs := S.rs ++ [⟨((S.lr + 1 : Nat) : Int), i, b, b + n⟩] } where
  regs := fun x hx => by
    rcases List.mem_append.1 hx with hx | hx
    · exact h.regs x hx
    · rw [List.mem_singleton.1 hx]
      exact ⟨c, hc, by simp only; omega, hb⟩
  few := h.few
  fewR := by simp only [List.length_append, List.length_singleton]; omega
  fewM := h.fewM
  room := h.room
  nos := by
    simp only [List.map_append, List.map_cons, List.map_nil]
    rw [List.pairwise_append]
    refine ⟨h.nos, List.pairwise_singleton _ _, fun x hx y hy => ?_⟩
    obtain ⟨r, hr, rfl⟩ := List.mem_map.1 hx
    have := (h.nol r hr).2
    rw [List.mem_singleton.1 hy]
    omega
  nol := fun x hx => by
    rcases List.mem_append.1 hx with hx | hx
    · have := h.nol x hx
      simp only
      omega
    · rw [List.mem_singleton.1 hx]
      simp only
      omega
  mnos := h.mnos
  mnol := h.mnol
  many := fun x hx => by
    have := h.many x hx
    simp only [List.length_append, List.length_singleton]
    omega
  mono := h.mono
  peak := h.peak
theorem Good.pk {S : ArS} (h : Good S) (n : Nat) (hn : n ≤ 200000000) : Good { S with pk := n } where
  regs := h.regs
  few := h.few
  fewR := h.fewR
  fewM := h.fewM
  room := h.room
  nos := h.nos
  nol := h.nol
  mnos := h.mnos
  mnol := h.mnol
  many := h.many
  mono := h.mono
  peak := hn

/-- A write into a chunk. -/
theorem ArenaAt.wrote {w w' : World} {aa p : Nat} {o k s m size : Int} {S : ArS} (h : ArenaAt w aa p o k s m size S) {i b : Nat} {os : List Int} {c : Chu} (hc : S.cs[i]? = some c) (hb : b + os.length ≤ c.ys.length) (hr : Row w' c.g (c.ys.take b ++ os ++ c.ys.drop (b + os.length))) (hu : Upd (fun j => j = c.g) w w') :
    ArenaAt w' aa p o k s m size { S with cs := cput S.cs i b os } ∧ Upd (AFoot aa S) w w' ∧ (∀ j, AFoot aa { S with cs := cput S.cs i b os } j → AFoot aa S j) := by
  have hcm := List.mem_of_getElem? hc
  refine ⟨⟨?_, ?_, ?_, ?_, ?_, ?_⟩, hu.mono (fun j hj => by rw [hj]; exact .inr (.inr (.inr (.inr (List.mem_map_of_mem hcm))))), foot_same rfl rfl rfl (cput_g hc hb)⟩
  · exact (hu.block aa (blk_lt h.head) (fun e => h.neg hcm e.symm)).trans h.head
  · simp only [cput_length]
    rw [cput_cells hc hb]
    exact own_frame h.ownC (fun j hj => hu.block j (own_lt' h.ownC hj) (fun e => h.negC hcm (e ▸ hj)))
  · exact own_frame h.ownR (fun j hj => hu.block j (own_lt' h.ownR hj) (fun e => h.negR hcm (e ▸ hj)))
  · exact own_frame h.ownM (fun j hj => hu.block j (own_lt' h.ownM hj) (fun e => h.negM hcm (e ▸ hj)))
  · intro d hd
    obtain ⟨j, hj, rfl⟩ := List.mem_iff_getElem.1 hd
    have hj' : (cput S.cs i b os)[j]? = some (cput S.cs i b os)[j] := List.getElem?_eq_getElem hj
    by_cases hji : j = i
    · subst hji
      rw [cput_get hc] at hj'
      injection hj' with e
      rw [← e]
      exact hr
    · rw [cput_get_ne hji] at hj'
      have hdm := List.mem_of_getElem? hj'
      have hne : (cput S.cs i b os)[j].g ≠ c.g := fun e => by
        obtain ⟨a1, a2⟩ := List.getElem?_eq_some_iff.1 hj'
        obtain ⟨b1, b2⟩ := List.getElem?_eq_some_iff.1 hc
        have hnd := h.apart
        rw [List.nodup_iff_pairwise_ne, List.pairwise_iff_getElem] at hnd
        rcases Nat.lt_or_gt_of_ne hji with hlt | hlt
        · have := hnd j i (by simpa using a1) (by simpa using b1) hlt
          simp only [List.getElem_map, a2, b2] at this
          exact this e
        · have := hnd i j (by simpa using b1) (by simpa using a1) hlt
          simp only [List.getElem_map, a2, b2] at this
          exact this e.symm
      exact (hu.block _ (h.rows _ hdm).lt hne).trans (h.rows _ hdm)
  · simp only
    rw [cput_g hc hb]
    exact h.apart
theorem Step.arena_only {w w1 w2 : World} {aa p : Nat} {k s m size : Int} {S S1 S2 : ArS} {b1 : BookS} {q q1 : Parts} (h : Step w w1 aa p k s m size S q S1 b1 q1) (hA : ArenaAt w2 aa p 1 k s m size S2) (hu : Upd (AFoot aa S1) w1 w2) (hf : ∀ j, AFoot aa S2 j → AFoot aa S1 j ∨ w1.heap.size ≤ j) : Step w w2 aa p k s m size S q S2 b1 q1 :=
  h.trans ⟨hA, h.book.frame (fun j hj => hu.block j (h.book.lt hj) (fun hA => h.arena.not_book h.book hA hj)), hu.mono (fun j hj => .inl hj), hf, fun j hj => .inl hj⟩

theorem plc_none {cs : List Chu} {rs : List Reg} {n al : Nat} : ∀ x, rs.getLast? = some x → (∃ c, cs[x.ch]? = some c) → Behind rs cs.length 0 := fun x hx hc y hy => by
  rw [hx] at hy
  injection hy with hy
  subst hy
  obtain ⟨c, hc⟩ := hc
  exact .inl (List.getElem?_eq_some_iff.1 hc).1
theorem behind_new {S : ArS} (h : Good S) : Behind S.rs S.cs.length 0 := fun y hy => by
  obtain ⟨c, hc, _⟩ := h.regs y (List.mem_of_getLast? hy)
  exact .inl (List.getElem?_eq_some_iff.1 hc).1
theorem placed_same {w w3 : World} {aa p : Nat} {k s m size : Int} {S : ArS} {b : BookS} {q : Parts} {n al i bb : Nat} (hA : ArenaAt w aa p 1 k s m size S) (hG : Good S) (hB : BookAt w p b q) (one : One b (aroom S.cs)) (hal : 1 ≤ al) (hP : plc S.cs S.rs n al = some (i, bb)) (hb : Below w.heap.size w w3) :
    ∃ c, Placed w (w3.alloc (.cells #[.int .i64 i, .int .i64 bb, .int .i64 ((bb : Int) + (n : Int))] 80)) aa p k s m size S q S b q w3.heap.size n i bb c := by
  obtain ⟨⟨c, h1, h2⟩, h3⟩ := plc_some hal hP
  exact ⟨c, (Step.refl hA hB).below (below_alloc hb _), one, blk_new _ _, hb.size, ⟨S.cv, [], by simp⟩, hG, h1, h2, h3⟩
theorem placed_new {w w3 w4 : World} {aa p : Nat} {k s m size : Int} {S : ArS} {b b' : BookS} {q q' : Parts} {n al i bb : Nat} {cv' : Value} {c : Chu} (hA : ArenaAt w aa p 1 k s m size S) (hG : Good S) (hB : BookAt w p b q) (hb : Below w.heap.size w w3) (hP : plc S.cs S.rs n al = none) (hi : i = S.cs.length) (h0 : bb = 0)
    (hst : Step (w3.alloc (.cells #[.int .i64 i, .int .i64 bb, .int .i64 ((bb : Int) + (n : Int))] 80)) w4 aa p k s m size S q { S with cv := cv', cs := S.cs ++ [c] } b' q') (hn : n ≤ c.ys.length) (ho : One b' (aroom (S.cs ++ [c]))) (hr : aroom (S.cs ++ [c]) ≤ 100000) (hl : S.cs.length + 1 ≤ 200) :
    Placed w w4 aa p k s m size S q { S with cv := cv', cs := S.cs ++ [c] } b' q' w3.heap.size n i bb c := by
  have hbu : Below w.heap.size w (w3.alloc (.cells #[.int .i64 i, .int .i64 bb, .int .i64 ((bb : Int) + (n : Int))] 80)) := below_alloc hb _
  have hnew := blk_new w3 (.cells #[.int .i64 i, .int .i64 bb, .int .i64 ((bb : Int) + (n : Int))] 80)
  refine ⟨((Step.refl hA hB).below hbu).trans hst, ho, ?_, hb.size, ⟨cv', [c], rfl⟩, hG.more cv' c hr hl, ?_, by omega, ?_⟩
  · refine (hst.upd.block _ (blk_lt hnew) ?_).trans hnew
    rintro (hj | hj)
    · exact (hA.below hbu).not_of hnew (by decide) (by decide) (by decide) (by decide) (by decide) hj
    · exact not_foot (hB_below hB hbu) hnew (by decide) (by decide) (by decide) (by decide) hj
  · simp only
    rw [hi, List.getElem?_append_right (Nat.le_refl _), Nat.sub_self]
    rfl
  · rw [hi, h0]
    exact behind_new hG
theorem row_cells : ∀ (os : List Int) (o : Nat) {w : World} {g : Nat} {zs : List Int}, Row w g zs → o + os.length ≤ zs.length → Row (w.setCells g o (lits8 os)) g (zs.take o ++ os ++ zs.drop (o + os.length)) ∧ (w.setCells g o (lits8 os)).heap.size = w.heap.size ∧ Upd (fun j => j = g) w (w.setCells g o (lits8 os))
  | [], o, w, g, zs, h, hl => by
    refine ⟨?_, rfl, Upd.refl _ _⟩
    have : zs.take o ++ [] ++ zs.drop (o + 0) = zs := by simp
    show Row w g _
    rw [show o + ([] : List Int).length = o + 0 from rfl, this]
    exact h
  | x :: os, o, w, g, zs, h, hl => by
    have hl' : o + (os.length + 1) ≤ zs.length := hl
    obtain ⟨h1, h2, h3⟩ := row_cells os (o + 1) (h.put o x) (by rw [List.length_set]; omega)
    have e : w.setCells g o (lits8 (x :: os)) = (w.setCell ⟨g, o, none⟩ (.int .u8 x)).setCells g (o + 1) (lits8 os) := rfl
    rw [e]
    refine ⟨?_, by rw [h2]; simp [World.setCell], ((Upd.refl (fun j => j = g) w).setCell ⟨g, o, none⟩ (.inl rfl) _).then h3 (fun j hj => .inl hj)⟩
    have e2 : (zs.set o x).take (o + 1) ++ os ++ (zs.set o x).drop (o + 1 + os.length) = zs.take o ++ (x :: os) ++ zs.drop (o + (x :: os).length) := by
      have l1 : (zs.set o x).take (o + 1) = zs.take o ++ [x] := by
        rw [List.take_add_one, List.take_set_of_le (Nat.le_refl _), List.getElem?_set_self (by omega)]
        rfl
      have l2 : (zs.set o x).drop (o + 1 + os.length) = zs.drop (o + (x :: os).length) := by
        rw [List.drop_set_of_lt (by omega)]
        congr 1
        simp only [List.length_cons]; omega
      rw [l1, l2]
      simp
    rw [← e2]
    exact h1
set_option maxRecDepth 100000 in
/-- clear of a stretch of a row. -/
theorem clear8 {w : World} {g bb n : Nat} {ys : List Int} {A : Option Addr} (h : Row w g ys) (hb : bb + n ≤ ys.length) (hA : bb < bb + n → A = some ⟨g, bb, none⟩) :
    ∃ w', (∀ ty, (Builtin.clear_ #[46] ty #[.slice A n n]).run Try.prog w = .ok (.tuple #[]) w') ∧ Row w' g (ys.take bb ++ List.replicate n 0 ++ ys.drop (bb + n)) ∧ Upd (fun j => j = g) w w' := by
  have hz : ∀ u : World, (zeroValue 5).run Try.prog u = .ok (.int .u8 0) u := fun _ => rfl
  by_cases hn : 0 < n
  · rw [hA (by omega)]
    have hl : (List.replicate n (0 : Int)).length = n := by simp
    obtain ⟨h1, _, h3⟩ := row_cells (List.replicate n (0 : Int)) bb h (by rw [hl]; exact hb)
    rw [hl] at h1
    have he : lits8 (List.replicate n (0 : Int)) = List.replicate n (.int .u8 0) := by simp [lits8]
    rw [he] at h1 h3
    refine ⟨_, fun ty => Lib.run_clear_slice (P := Try.prog) w 46 5 ty (.int .u8 0) Try.underlying46 hz rfl rfl g bb n n hn (fun j hj => ?_) (fun j hj => h.frozen _), h1, h3⟩
    rw [h.cell (bb + j) (by omega)]
    rfl
  · have : n = 0 := by omega
    subst this
    refine ⟨w, fun ty => ?_, by simpa using h, Upd.refl _ _⟩
    cases A <;> simp [Builtin.clear_, run_underlying Try.underlying46, World.setCells, hz]

theorem infoR : (Try.prog.info? 82).map (fun i => (i.zero, i.size, i.bytes)) = some (some (.agg #[.int .i64 0, .int .i64 0, .int .i64 0, .int .i64 0]), 4, 32) := by kernel_rfl
/-- Behind the count of the last region. -/
theorem count_step {w w1 : World} {aa p : Nat} {k s m size : Int} {S S1 : ArS} {q q1 : Parts} {b1 : BookS} (h : Step w w1 aa p k s m size S q S1 b1 q1) (n : Nat) : Step w (w1.setCell ⟨aa, 10, none⟩ (.int .i64 n)) aa p k s m size S q { S1 with lr := n } b1 q1 :=
  h.arena_only (h.arena.setLr n) ((Upd.refl (AFoot aa S1) w1).setCell ⟨aa, 10, none⟩ (.inl (.inl rfl)) _) (fun j hj => .inl (foot_same rfl rfl rfl rfl j hj))
theorem peak_step {w w1 : World} {aa p : Nat} {k s m size : Int} {S S1 : ArS} {q q1 : Parts} {b1 : BookS} (h : Step w w1 aa p k s m size S q S1 b1 q1) (n : Nat) : Step w (w1.setCell ⟨aa, 12, none⟩ (.int .i64 n)) aa p k s m size S q { S1 with pk := n } b1 q1 :=
  h.arena_only (h.arena.setPk n) ((Upd.refl (AFoot aa S1) w1).setCell ⟨aa, 12, none⟩ (.inl (.inl rfl)) _) (fun j hj => .inl (foot_same rfl rfl rfl rfl j hj))
/-- A new region. -/
theorem region_step {w w1 W w2 : World} {aa p : Nat} {k s m size : Int} {S S1 : ArS} {q q1 : Parts} {b1 : BookS} {g cap : Nat} {x : Reg} (h : Step w w1 aa p k s m size S q S1 b1 q1) (hW : Below w1.heap.size w1 W)
    (ho : w2.ownsRow 0 82 4 (.slice (some ⟨g, 0, none⟩) (S1.rs.length + 1) cap) (S1.rs.length + 1) (rowsOf Reg.cells S1.rs ++ x.cells)) (hg : W.grownBy w2 S1.rv.ownBlock) (hf : some g = S1.rv.ownBlock ∨ W.heap.size ≤ g) :
    Step w (w2.setCell ⟨aa, 8, none⟩ (.slice (some ⟨g, 0, none⟩) (S1.rs.length + 1) cap)) aa p k s m size S q { S1 with rv := .slice (some ⟨g, 0, none⟩) (S1.rs.length + 1) cap, rs := S1.rs ++ [x] } b1 q1 := by
  obtain ⟨a1, a2, a3⟩ := h.arena.putR hW ho hg hf
  exact h.arena_only a1 a2 a3
/-- A block of another type stays. -/
theorem other_stays {w w2 : World} {aa p : Nat} {k s m size : Int} {S S2 : ArS} {q q2 : Parts} {b b2 : BookS} (h : Step w w2 aa p k s m size S q S2 b2 q2) (hA : ArenaAt w aa p 1 k s m size S) (hB : BookAt w p b q) {j : Nat} {cur : Array Value} (hc : w.heap[j]? = some (.cells cur 80)) : w2.heap[j]? = some (.cells cur 80) := by
  refine (h.upd.block _ (blk_lt hc) ?_).trans hc
  rintro (hj | hj)
  · exact hA.not_of hc (by decide) (by decide) (by decide) (by decide) (by decide) hj
  · exact not_foot hB hc (by decide) (by decide) (by decide) (by decide) hj
/-- A new region, as the walk meets it. -/
theorem region_step' {w w5 W w6 : World} {aa p : Nat} {k s m size : Int} {S S2 : ArS} {q q1 : Parts} {b1 : BookS} {A : Option Addr} {N cap g cap1 i0 b0 n sb : Nat} {no : Int} {cur : Array Value} (h : Step w w5 aa p k s m size S q S2 b1 q1) (hN : N = S2.rs.length) (hrv : S2.rv = .slice A N cap) (hW : Below w5.heap.size w5 W)
    (ho : w6.ownsRow 0 82 4 (.slice (some ⟨g, 0, none⟩) (N + 1) cap1) (N + 1) (rowsOf Reg.cells S2.rs ++ [.int .i64 no, .int .i64 i0, .int .i64 b0, .int .i64 ((b0 : Int) + (n : Int))])) (hg : W.grownBy w6 (Value.slice A N cap).ownBlock) (hf : some g = (Value.slice A N cap).ownBlock ∨ W.heap.size ≤ g) (hsp : w5.heap[sb]? = some (.cells cur 80)) :
    Step w (w6.setCell ⟨aa, 8, none⟩ (.slice (some ⟨g, 0, none⟩) (N + 1) cap1)) aa p k s m size S q { S2 with rv := .slice (some ⟨g, 0, none⟩) (N + 1) cap1, rs := S2.rs ++ [⟨no, i0, b0, b0 + n⟩] } b1 q1 ∧ (w6.setCell ⟨aa, 8, none⟩ (.slice (some ⟨g, 0, none⟩) (N + 1) cap1)).heap[sb]? = some (.cells cur 80) := by
  subst hN
  rw [← hrv] at hg hf
  have ho' : w6.ownsRow 0 82 4 (.slice (some ⟨g, 0, none⟩) (S2.rs.length + 1) cap1) (S2.rs.length + 1) (rowsOf Reg.cells S2.rs ++ (⟨no, i0, b0, b0 + n⟩ : Reg).cells) := by
    simpa [Reg.cells] using ho
  exact ⟨region_step h hW ho' hg hf, other_stays (region_step (Step.refl h.arena h.book) hW ho' hg hf) h.arena h.book hsp⟩
theorem Good.pk_len {S : ArS} (h : Good S) : (if S.pk < alen S.rs then (alen S.rs : Int) else (S.pk : Int)) = ((max S.pk (alen S.rs) : Nat) : Int) ∧ max S.pk (alen S.rs) ≤ 200000000 := by
  have h1 := h.len
  have h2 := h.peak
  constructor
  · split <;> omega
  · omega
theorem took_all {S S1 S5 : ArS} {n i b : Nat} {c : Chu} {cv : Value} {ks : List Chu} {lr : Nat} {rv3 : Value} {pk : Nat} (h1 : S1 = { S with cv := cv, cs := S.cs ++ ks }) (hlr : lr = S.lr) (hc : S1.cs[i]? = some c) (hf : b + n ≤ c.ys.length) (hb : Behind S.rs i b) (hg : Good S5) (h5 : S5 = { S1 with lr := lr + 1, rv := rv3, rs := S1.rs ++ [⟨((lr + 1 : Nat) : Int), i, b, b + n⟩], cs := cput S1.cs i b (List.replicate n 0), pk := pk }) : Took S S5 n i b := by
  subst h1 hlr h5
  exact ⟨rfl, rfl, rfl, rfl, ⟨ks, c, hc, hf, rfl⟩, hb, hg⟩
end Go.Proofs.Yticbjaclnneaoaa.Arena
