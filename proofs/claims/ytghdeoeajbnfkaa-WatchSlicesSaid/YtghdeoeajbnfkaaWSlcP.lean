/- WatchSlices: what its walk keeps. -/
import Derived.Test.YtghdeoeajbnfkaaWLawP
namespace Go.Proofs.Ytghdeoeajbnfkaa.WSl
open Go.RowKit Go.Proofs.YtghdeoeajbnfkaaW.PrintWords Go.Proofs.YtghdeoeajbnfkaaW.PrintLast Go.Proofs.YtghdeoeajbnfkaaW.PrintMore Go.Proofs.Ytghdeoeajbnfkaa.WMem Go.Proofs.Ytghdeoeajbnfkaa.PWatchSlices Go.Proofs.Ytghdeoeajbnfkaa.MapPair
set_option linter.unusedSimpArgs false
set_option linter.unusedVariables false

abbrev kI : Kd Int := Kd.int .i64

/-- The row of groups at gr, the map of cells at r, the rows of pairs and of tight slices. -/
structure EMid (w6 wr : World) (gr r n : Nat) (want tight : Value) (W : List Pr) (T : List Int) (G : List Int) (P : List (Int × Int)) : Prop where
  below : Below w6.heap.size w6 wr
  grp : ∀ j, j < n → wr.cell? ⟨gr, j, none⟩ = some (.int .i64 (G.getD j 0)) ∧ wr.frozen? ⟨gr, j, none⟩ = false
  glen : G.length = n
  map : PairMap wr r P
  fits : Fits P
  want : Kd.R kPr 57 wr w6.heap.size (fun k => w6.heap.size ≤ k ∧ k ≠ gr ∧ k ≠ r) want W
  tight : Kd.R kI 3 wr w6.heap.size (fun k => w6.heap.size ≤ k ∧ k ≠ gr ∧ k ≠ r) tight T
  grN : w6.heap.size ≤ gr ∧ (0 < n → gr < wr.heap.size)
  rN : w6.heap.size ≤ r
  ne : r ≠ gr

variable {w6 wr w2 : World} {gr r n : Nat} {want tight : Value} {W : List Pr} {T : List Int} {G : List Int} {P : List (Int × Int)}

theorem EMid.later (h : EMid w6 wr gr r n want tight W T G P) (hb : Below wr.heap.size wr w2) : EMid w6 w2 gr r n want tight W T G P := by
  have hs := hb.size
  refine ⟨h.below.trans (hb.mono h.below.size), fun j hj => ?_, h.glen, h.map.of_heap (hb.block r h.map.lt), h.fits, Kd.R_below h.want hb, Kd.R_below h.tight hb, ⟨h.grN.1, fun h0 => by have := h.grN.2 h0; omega⟩, h.rN, h.ne⟩
  obtain ⟨c, f⟩ := h.grp j hj
  have hlt : gr < wr.heap.size := cell_lt c
  exact ⟨(hb.cell (p := ⟨gr, j, none⟩) hlt).trans c, (hb.frozen (p := ⟨gr, j, none⟩) hlt).trans f⟩
theorem EMid.drewN (h : EMid w6 wr gr r n want tight W T G P) (k : Nat) : EMid w6 (wr.drewN k) gr r n want tight W T G P := h.later (pw_below_drewN (Below.refl _ _) k)
theorem EMid.drew (h : EMid w6 wr gr r n want tight W T G P) : EMid w6 wr.drew gr r n want tight W T G P := h.later (below_drew (Below.refl _ _))

/-- A group's label is written. -/
theorem EMid.putG (h : EMid w6 wr gr r n want tight W T G P) (i : Nat) (v : Int) (hi : i < n) : EMid w6 (wr.setCell ⟨gr, i, none⟩ (.int .i64 v)) gr r n want tight W T (G.set i v) P := by
  refine ⟨h.below.setCell (p := ⟨gr, i, none⟩) h.grN.1 _, fun j hj => ⟨?_, ?_⟩, by rw [List.length_set]; exact h.glen, h.map.of_heap (Below.heap_setCell _ _ _ _ h.ne), h.fits, Kd.R_far h.want (fun k hk => hk.2.1) _, Kd.R_far h.tight (fun k hk => hk.2.1) _, ⟨h.grN.1, fun h0 => by simpa [World.setCell] using h.grN.2 h0⟩, h.rN, h.ne⟩
  · by_cases he : i = j
    · subst he
      rw [World.cell?_setCell_same _ _ _ (h.grp i hi).1, List.getD_eq_getElem?_getD, List.getElem?_set, if_pos rfl, if_pos (by rw [h.glen]; exact hi)]
      rfl
    · rw [World.cell?_setCell_other (h := at_ne (fun e => he e.2)), (h.grp j hj).1, List.getD_eq_getElem?_getD, List.getD_eq_getElem?_getD, List.getElem?_set, if_neg he]
  · rw [World.frozen?_setCell]
    exact (h.grp j hj).2

theorem blk_cells_same {wr w2 : World} {b : Nat} (h : w2.heap[b]? = wr.heap[b]?) (j : Nat) : w2.cell? ⟨b, j, none⟩ = wr.cell? ⟨b, j, none⟩ ∧ w2.frozen? ⟨b, j, none⟩ = wr.frozen? ⟨b, j, none⟩ :=
  ⟨World.cell?_of_block (a := ⟨b, j, none⟩) h, World.frozen?_of_block (a := ⟨b, j, none⟩) h⟩

/-- A cell goes into the map. -/
theorem EMid.putP (h : EMid w6 wr gr r n want tight W T G P) {P' : List (Int × Int)} (hm : PairMap w2 r P') (hf : Fits P') (hg : wr.grownBy w2 (some r)) : EMid w6 w2 gr r n want tight W T G P' := by
  refine ⟨below_grown h.below (Nat.le_refl _) hg (fun k hk => by cases hk; exact h.rN), fun j hj => ?_, h.glen, hm, hf, Kd.R_grown h.want hg (fun k hk e => hk.2.2 (by injection e)), Kd.R_grown h.tight hg (fun k hk e => hk.2.2 (by injection e)), ⟨h.grN.1, fun h0 => Nat.lt_of_lt_of_le (h.grN.2 h0) hg.size⟩, h.rN, h.ne⟩
  obtain ⟨c, f⟩ := h.grp j hj
  have hb := hg.block gr (cell_lt c) (fun e => h.ne (by injection e with e; exact e.symm))
  obtain ⟨e1, e2⟩ := blk_cells_same hb j
  exact ⟨e1.trans c, e2.trans f⟩

theorem types_ne {w : World} {α β : Type} {d : Kd α} {d' : Kd β} {e e' base : Nat} {ok ok' : Nat → Prop} {v v' : Value} {xs : List α} {ys : List β} (h : d.R e w base ok v xs) (h' : d'.R e' w base ok' v' ys) (hne : e ≠ e') (k : Nat) (hk : v.ownBlock = some k) : some k ≠ v'.ownBlock := fun e2 => by
  obtain ⟨c1, h1⟩ := R_typed h k hk
  obtain ⟨c2, h2⟩ := R_typed h' k e2.symm
  rw [h1] at h2
  injection h2 with h2
  injection h2 with _ h2 _
  exact hne h2

/-- A pair more. -/
theorem EMid.addW (h : EMid w6 wr gr r n want tight W T G P) {v1 : Value} {W' : List Pr} (hR : Kd.R kPr 57 w2 w6.heap.size (fun k => w6.heap.size ≤ k ∧ k ≠ gr ∧ k ≠ r) v1 W') (hg : wr.grownBy w2 want.ownBlock) : EMid w6 w2 gr r n v1 tight W' T G P := by
  refine ⟨below_grown h.below (Nat.le_refl _) hg (fun k hk => (h.want.1 k hk).1), fun j hj => ?_, h.glen, h.map.of_heap (hg.block r h.map.lt (fun e => (h.want.1 r e.symm).2.2 rfl)), h.fits, hR, Kd.R_grown2 h.tight rfl hg (fun k hk => types_ne h.want h.tight (by decide) k hk), ⟨h.grN.1, fun h0 => Nat.lt_of_lt_of_le (h.grN.2 h0) hg.size⟩, h.rN, h.ne⟩
  obtain ⟨c, f⟩ := h.grp j hj
  have hb := hg.block gr (cell_lt c) (fun e => (h.want.1 gr e.symm).2.1 rfl)
  obtain ⟨e1, e2⟩ := blk_cells_same hb j
  exact ⟨e1.trans c, e2.trans f⟩
/-- A tight slice more. -/
theorem EMid.addT (h : EMid w6 wr gr r n want tight W T G P) {v1 : Value} {T' : List Int} (hR : Kd.R kI 3 w2 w6.heap.size (fun k => w6.heap.size ≤ k ∧ k ≠ gr ∧ k ≠ r) v1 T') (hg : wr.grownBy w2 tight.ownBlock) : EMid w6 w2 gr r n want v1 W T' G P := by
  refine ⟨below_grown h.below (Nat.le_refl _) hg (fun k hk => (h.tight.1 k hk).1), fun j hj => ?_, h.glen, h.map.of_heap (hg.block r h.map.lt (fun e => (h.tight.1 r e.symm).2.2 rfl)), h.fits, Kd.R_grown2 h.want rfl hg (fun k hk => types_ne h.tight h.want (by decide) k hk), hR, ⟨h.grN.1, fun h0 => Nat.lt_of_lt_of_le (h.grN.2 h0) hg.size⟩, h.rN, h.ne⟩
  obtain ⟨c, f⟩ := h.grp j hj
  have hb := hg.block gr (cell_lt c) (fun e => (h.tight.1 gr e.symm).2.1 rfl)
  obtain ⟨e1, e2⟩ := blk_cells_same hb j
  exact ⟨e1.trans c, e2.trans f⟩

/-- The boxes of a cut: a block of its own, behind all that is kept. -/
def BoxAt (w : World) (B : Nat) (x : Cu) : Prop := w.heap[B]? = some (.cells #[.int .i64 x.m, .int .i64 x.f, .int .i64 x.t] 47)
theorem BoxAt.cells {w : World} {B : Nat} {x : Cu} (h : BoxAt w B x) : w.cell? ⟨B, 0, none⟩ = some (.int .i64 x.m) ∧ w.cell? ⟨B, 1, none⟩ = some (.int .i64 x.f) ∧ w.cell? ⟨B, 2, none⟩ = some (.int .i64 x.t) := by
  unfold BoxAt at h
  exact ⟨by rw [blk_cell h]; rfl, by rw [blk_cell h]; rfl, by rw [blk_cell h]; rfl⟩
theorem BoxAt.later {w w2 : World} {B : Nat} {x : Cu} (h : BoxAt w B x) (hb : Below w.heap.size w w2) : BoxAt w2 B x := by
  unfold BoxAt at *
  rw [hb.block B (Array.getElem?_eq_some_iff.1 h).1]
  exact h
theorem BoxAt.keep {w w2 : World} {B : Nat} {x : Cu} {row : Option Nat} (h : BoxAt w B x) (hg : w.grownBy w2 row) (hne : row ≠ some B) : BoxAt w2 B x := by
  unfold BoxAt at *
  rw [hg.block B (Array.getElem?_eq_some_iff.1 h).1 (fun e => hne e.symm)]
  exact h
/-- A row's block is no box. -/
theorem BoxAt.row_ne {w : World} {B : Nat} {x : Cu} {α : Type} {d : Kd α} {e base : Nat} {ok : Nat → Prop} {v : Value} {xs : List α} (h : BoxAt w B x) (hR : d.R e w base ok v xs) (hne : e ≠ 47) : v.ownBlock ≠ some B := fun e2 => by
  obtain ⟨c1, h1⟩ := R_typed hR B e2
  unfold BoxAt at h
  rw [h1] at h
  injection h with h
  injection h with _ h _
  exact hne h

/-- The constants of the walk: the slices' row and the cuts' row. -/
structure Base (w1 : World) (OA AA : Option Addr) (oc ac gO : Nat) (mm : Nat → Nat) (cs : List Cu) : Prop where
  row : RowAt w1 OA gO 0 (cs.map (slOf mm))
  lies : ∀ x ∈ cs, Lies w1 (slOf mm x)
  ok : ∀ x ∈ cs, x.ok
  at_ : Kd.C cuK w1 AA cs.length cs
  few : cs.length ≤ 12
  oc_le : cs.length ≤ oc
  inj : ∀ i j, i < 3 → j < 3 → mm i = mm j → i = j
  out : ∀ i, ¬ SF (cs.map (slOf mm)) gO i
  glt : gO < w1.heap.size

theorem Base.below {w1 : World} {OA AA : Option Addr} {oc ac gO : Nat} {mm : Nat → Nat} {cs : List Cu} (h : Base w1 OA AA oc ac gO mm cs) {w2 : World} (hb : Below w1.heap.size w1 w2) : Base w2 OA AA oc ac gO mm cs :=
  ⟨h.row.below hb, fun x hx => Lies.below (h.lies x hx) hb, h.ok, Kd.C_below h.at_ hb, h.few, h.oc_le, h.inj, h.out, Nat.lt_of_lt_of_le h.glt hb.size⟩
theorem Base.liesAll {w1 : World} {OA AA : Option Addr} {oc ac gO : Nat} {mm : Nat → Nat} {cs : List Cu} (h : Base w1 OA AA oc ac gO mm cs) : ∀ s ∈ cs.map (slOf mm), Lies w1 s := fun s hs => by
  obtain ⟨x, hx, rfl⟩ := List.mem_map.1 hs
  exact h.lies x hx
theorem Base.chk {w1 : World} {OA AA : Option Addr} {oc ac gO : Nat} {mm : Nat → Nat} {cs : List Cu} (h : Base w1 OA AA oc ac gO mm cs) : chk (cs.map (slOf mm)) = 0 := by
  unfold WSl.chk
  rw [if_neg (by rw [List.length_map]; have := h.few; omega), if_neg]
  rintro ⟨s, hs, hn⟩
  obtain ⟨x, hx, rfl⟩ := List.mem_map.1 hs
  have := h.ok x hx
  have h3 := this.2.2
  rw [slOf_n] at hn
  omega
theorem Base.chk2 {w1 : World} {OA AA : Option Addr} {oc ac gO : Nat} {mm : Nat → Nat} {cs : List Cu} (h : Base w1 OA AA oc ac gO mm cs) {x y : Cu} (hx : x ∈ cs) (hy : y ∈ cs) : WSl.chk [slOf mm x, slOf mm y] = 0 := by
  unfold WSl.chk
  rw [if_neg (by simp), if_neg]
  rintro ⟨s, hs, hn⟩
  have h1 := (h.ok x hx).2.2
  have h2 := (h.ok y hy).2.2
  simp only [List.mem_cons, List.mem_nil_iff, or_false] at hs
  rcases hs with rfl | rfl
  · rw [slOf_n] at hn; omega
  · rw [slOf_n] at hn; omega

/-- The first i groups are themselves. -/
def gAt (n i : Nat) : List Int := (List.range i).map (fun (j : Nat) => (j : Int)) ++ List.replicate (n - i) 0
theorem gAt_set (n i : Nat) (h : i < n) : (gAt n i).set i (i : Int) = gAt n (i + 1) := by
  unfold gAt
  rw [List.range_succ, List.map_append, List.append_assoc]
  have e : List.replicate (n - i) (0 : Int) = 0 :: List.replicate (n - (i + 1)) 0 := by
    rw [show n - i = (n - (i + 1)) + 1 by omega]
    rfl
  rw [e, List.set_append_right _ _ (by simp)]
  simp
theorem gAt_all (n : Nat) : gAt n n = ids n := by
  unfold gAt ids
  simp

theorem EMid.start (w6 : World) (n : Nat) (zs : Array Value) (hz : ∀ j, j < n → zs[j]? = some (.int .i64 0)) :
    EMid w6 ((w6.alloc (.cells zs 3)).alloc (.map #[] 0)) w6.heap.size (w6.heap.size + 1) n (.slice none 0 0) (.slice none 0 0) [] [] (gAt n 0) [] := by
  have hb := blk_alloc (blk_new w6 (.cells zs 3)) (.map #[] 0)
  have hs : (w6.alloc (.cells zs 3)).heap.size = w6.heap.size + 1 := by simp
  refine ⟨below_alloc (below_alloc (Below.refl _ _) _) _, fun j hj => ⟨?_, blk_frozen hb j⟩, by simp [gAt], ?_, fun x hx => by simp at hx, Kd.R_nil _ _ _ _ _, Kd.R_nil _ _ _ _ _, ⟨Nat.le_refl _, fun _ => by simp; omega⟩, by omega, by omega⟩
  · rw [blk_cell hb, hz j hj]
    simp [gAt, List.getD_eq_getElem?_getD, hj]
  · have := PairMap.made (w6.alloc (.cells zs 3))
    rwa [hs] at this

/-- The cut at hand. -/
theorem Base.cut {w1 : World} {OA AA : Option Addr} {oc ac gO : Nat} {mm : Nat → Nat} {cs : List Cu} (h : Base w1 OA AA oc ac gO mm cs) {w2 : World} (hb : Below w1.heap.size w1 w2) (i : Nat) (hi : i < cs.length) :
    ∃ x ad, cs[i]? = some x ∧ x ∈ cs ∧ AA = some ad ∧ OA = some ⟨gO, 0, none⟩ ∧ w2.cell? (ad.add (i * 3)) = some (.int .i64 x.m) ∧ w2.cell? ⟨(ad.add (i * 3)).block, (ad.add (i * 3)).off + 1, none⟩ = some (.int .i64 x.f) ∧ w2.cell? ⟨(ad.add (i * 3)).block, (ad.add (i * 3)).off + 2, none⟩ = some (.int .i64 x.t) ∧ w2.cell? ⟨gO, i, none⟩ = some (slOf mm x).val := by
  have e : cs[i]? = some cs[i] := List.getElem?_eq_getElem hi
  obtain ⟨ad, hA, c0, c1, c2⟩ := cuAt h.at_ i cs[i] e
  have hr := h.row.cell i (slOf mm cs[i]) (by rw [List.getElem?_map, e]; rfl)
  rw [Nat.zero_add] at hr
  exact ⟨cs[i], ad, e, List.getElem_mem _, hA, h.row.A (by rw [List.length_map]; omega), (hb.cell (cell_lt c0)).trans c0, (hb.cell (cell_lt c1)).trans c1, (hb.cell (cell_lt c2)).trans c2, (hb.cell (cell_lt hr)).trans hr⟩

theorem wall_next (l : List Sl) (i : Nat) : wrow l i (wall l i) l.length = wall l (i + 1) := rfl
theorem pA_next (cs : List Cu) (i : Nat) (c : Cu) (h : cs[i]? = some c) : pA cs (i + 1) = pS c (pA cs i) (c.t - c.f) := by
  show (match cs[i]? with | some c => pS c (pA cs i) (c.t - c.f) | none => pA cs i) = _
  rw [h]

theorem kept_at2 {w wr : World} {l : List Sl} {A : Option Addr} {c : Nat} {base : Nat} {ok : Nat → Prop} (h : Kd.R KL 22 wr base ok (.slice A l.length c) (kept w l)) (k : Nat) (hk : k < l.length) :
    ∃ ad B c0, A = some ad ∧ wr.cell? (ad.add k) = some (.slice B l[k].n c0) ∧ l[k].n ≤ c0 ∧ ReadsInt wr .u8 B l[k].n (octsOf w l[k]) := by
  obtain ⟨_, _, hC⟩ := Kd.R_reads' h
  obtain ⟨ad, A0, c0, e, h1, h2, h3⟩ := PWatchSlices.at_L1 hC (k : Int) (by omega) (by simp; omega)
  have hr : PWatchSlices.rd_L1 (kept w l) (k : Int) = octsOf w l[k] := by
    simp [PWatchSlices.rd_L1, rdOf, kept, List.getD_eq_getElem?_getD, hk]
  rw [hr, octsOf_length] at h1 h2 h3
  exact ⟨ad, A0, c0, e, by simpa using h1, h2, Kd.reads_of_C (d := 0) h3⟩

theorem lfold_next (ps : List Pr) (g : List Int) (k : Nat) (p : Pr) (h : ps[k]? = some p) : lfold ps g (k + 1) = lstep (lfold ps g k) p := by
  show (match ps[k]? with | some p => lstep (lfold ps g k) p | none => lfold ps g k) = _
  rw [h]

/-- The box of a pair. -/
def PBox (w : World) (B : Nat) (a b : Nat) : Prop := w.heap[B]? = some (.cells #[.int .i64 (a : Int), .int .i64 (b : Int)] 57)
theorem PBox.cells {w : World} {B a b : Nat} (h : PBox w B a b) : w.cell? ⟨B, 0, none⟩ = some (.int .i64 (a : Int)) ∧ w.cell? ⟨B, 1, none⟩ = some (.int .i64 (b : Int)) := by
  unfold PBox at h
  exact ⟨by rw [blk_cell h]; rfl, by rw [blk_cell h]; rfl⟩

theorem EMid.reads (h : EMid w6 wr gr r n want tight W T G P) (hn : n ≤ 1000000) : ReadsInt wr .i64 (some ⟨gr, 0, none⟩) n G :=
  ⟨h.glen, by omega, fun _ => ⟨_, rfl, fun j hj => by rw [add_at, Nat.zero_add]; exact (h.grp j hj).1⟩⟩

end Go.Proofs.Ytghdeoeajbnfkaa.WSl
