/- Slices that are cleared, and put back: the walk. -/
import Derived.Test.YtghdeoeajbnfkaaWApp
namespace Go.Proofs.Ytghdeoeajbnfkaa.WSl
open Go.RowKit Go.Proofs.YtghdeoeajbnfkaaW.PrintWords Go.Proofs.YtghdeoeajbnfkaaW.PrintLast Go.Proofs.YtghdeoeajbnfkaaW.PrintMore Go.Proofs.Ytghdeoeajbnfkaa.WMem
set_option linter.unusedSimpArgs false
set_option linter.unusedVariables false

theorem info22 : (Try.prog.info? 22).map (fun i => (i.zero, i.size, i.bytes)) = some (some (.slice none 0 0), 1, 24) := by kernel_rfl
theorem infoU1 : (Try.prog.info? 5).map (·.size) = some 1 := by kernel_rfl
theorem zeroU8 (w : World) : (zeroValue 5).run Try.prog w = .ok (.int .u8 0) w := by rfl

abbrev KL : Kd (List Int) := Kd.slice 5 (Kd.int .u8)

/-- A row of slices. -/
structure RowAt (w : World) (A : Option Addr) (g o : Nat) (l : List Sl) : Prop where
  A : 0 < l.length → A = some ⟨g, o, none⟩
  cell : ∀ i s, l[i]? = some s → w.cell? ⟨g, o + i, none⟩ = some s.val

theorem RowAt.below {w w1 : World} {A : Option Addr} {g o : Nat} {l : List Sl} (h : RowAt w A g o l) (hb : Below w.heap.size w w1) : RowAt w1 A g o l :=
  ⟨h.A, fun i s hi => by
    have := h.cell i s hi
    rw [← this]
    exact hb.cell (p := ⟨g, o + i, none⟩) (cell_lt this)⟩

theorem RowAt.only {w w1 : World} {A : Option Addr} {g o : Nat} {l : List Sl} {F : Nat → Nat → Prop} (h : RowAt w A g o l) (hb : Only F w w1) (hF : ∀ i, ¬ F g i) : RowAt w1 A g o l :=
  ⟨h.A, fun i s hi => by
    have := h.cell i s hi
    rw [← this]
    exact hb.cell ⟨g, o + i, none⟩ (cell_lt this) (hF _)⟩

theorem Lies.below {w w1 : World} {s : Sl} (h : Lies w s) (hb : Below w.heap.size w w1) : Lies w1 s :=
  ⟨h.nil, h.le, h.small, fun j hj => by
    obtain ⟨x, hx, hf⟩ := h.cell j hj
    have hlt : s.b < w.heap.size := cell_lt hx
    exact ⟨x, by rw [← hx]; exact hb.cell (p := ⟨s.b, s.o + j, none⟩) hlt, by rw [← hf]; exact hb.frozen (p := ⟨s.b, s.o + j, none⟩) hlt⟩⟩

theorem octsOf_below {w w1 : World} {s : Sl} (h : Lies w s) (hb : Below w.heap.size w w1) : octsOf w1 s = octsOf w s := by
  unfold octsOf
  refine List.map_congr_left (fun j hj => ?_)
  have hj : j < s.n := by simpa using hj
  rw [hb.cell (p := ⟨s.b, s.o + j, none⟩) (h.lt (by omega))]

/-- Behind writes to the slices alone, of octets, a slice still lies. -/
theorem Lies.only {w w1 : World} {s : Sl} {F : Nat → Nat → Prop} (h : Lies w s) (hb : Only F w w1) (hx : ∀ j, j < s.n → ∃ x : Int, w1.cell? ⟨s.b, s.o + j, none⟩ = some (.int .u8 x)) : Lies w1 s :=
  ⟨h.nil, h.le, h.small, fun j hj => by
    obtain ⟨x, hx⟩ := hx j hj
    obtain ⟨y, hy, hf⟩ := h.cell j hj
    exact ⟨x, hx, by rw [hb.frozen ⟨s.b, s.o + j, none⟩ (cell_lt hy)]; exact hf⟩⟩

theorem Sl.A_some {s : Sl} (h : s.nul = true → s.n = 0 ∧ s.c = 0) (hn : 0 < s.n) : s.A = some ⟨s.b, s.o, none⟩ := by
  unfold Sl.A
  split
  · next hq => have := (h hq).1; omega
  · rfl

/-- clear of a slice. -/
theorem run_clear (w : World) (s : Sl) (h : Lies w s) (ty : TypeId) : (Builtin.clear_ #[22] ty #[s.val]).run Try.prog w = .ok (.tuple #[]) (w.setCells s.b s.o (List.replicate s.n (.int .u8 0))) := by
  by_cases hn : 0 < s.n
  · unfold Sl.val
    rw [Sl.A_some h.nil hn]
    exact Lib.run_clear_slice (P := Try.prog) w 22 5 ty (.int .u8 0) Try.underlying22 zeroU8 rfl rfl s.b s.o s.n s.c hn (fun j hj => by obtain ⟨x, hx, _⟩ := h.cell j hj; rw [hx]; rfl) (fun j hj => (h.cell j hj).choose_spec.2)
  · have h0 : s.n = 0 := by omega
    unfold Sl.val
    rw [h0]
    generalize s.A = A
    cases A <;> simp [Builtin.clear_, run_underlying Try.underlying22, World.setCells, zeroU8]

/-- copy of octets into a slice. -/
theorem run_copy (w : World) (s : Sl) (h : Lies w s) (A : Option Addr) (c : Nat) (xs : List Int) (hx : xs.length = s.n) (hr : ReadsInt w .u8 A s.n xs) (ty : TypeId) :
    (Builtin.copy_ #[22, 22] ty #[s.val, .slice A s.n c]).run Try.prog w = .ok (goInt s.n) (w.setCells s.b s.o (xs.map (.int .u8))) := by
  by_cases hn : 0 < s.n
  · unfold Sl.val
    rw [Sl.A_some h.nil hn]
    obtain ⟨ad, rfl, hc⟩ := hr.2.2 hn
    have := Go.run_copy_cells (P := Try.prog) w 22 22 ty 5 s.b s.o s.n s.c ad s.n c (xs.map (.int .u8)) Try.underlying22 infoU1 (by simp [hx]) (fun j v hj => by
        have hlt : j < s.n := by
          have := (List.getElem?_eq_some_iff.1 hj).1
          simpa [hx] using this
        rw [hc j hlt, ← hj, List.getElem?_map, List.getD_eq_getElem?_getD, List.getElem?_eq_getElem (by omega)]
        rfl)
      (fun j hj => by obtain ⟨x, hx', _⟩ := h.cell j (by simpa [hx] using hj); rw [hx']; rfl) (fun j hj => (h.cell j (by simpa [hx] using hj)).choose_spec.2)
      (by intro v hv; obtain ⟨x, _, rfl⟩ := List.mem_map.1 hv; rfl)
    rw [this]
    simp [hx]
  · have h0 : s.n = 0 := by omega
    unfold Sl.val
    have hxs : xs = [] := List.eq_nil_of_length_eq_zero (by omega)
    rw [h0, hxs]
    have := Go.run_copy_none (P := Try.prog) w 22 22 ty 5 s.A A 0 s.c 0 c Try.underlying22 infoU1 rfl
    rw [this]
    rfl

/-- What clear leaves. -/
theorem cleared {w w0 : World} {l : List Sl} {s : Sl} (hs : s ∈ l) (hb : Only (SF l) w0 w) : Only (SF l) w0 (w.setCells s.b s.o (List.replicate s.n (.int .u8 0))) :=
  Only.setCells _ _ _ _ hb (fun j hj => .inl ⟨s, hs, rfl, by omega, by simp at hj; omega⟩)

theorem copied {w w0 : World} {l : List Sl} {s : Sl} (hs : s ∈ l) (xs : List Int) (hx : xs.length = s.n) (hb : Only (SF l) w0 w) : Only (SF l) w0 (w.setCells s.b s.o (xs.map (.int .u8))) :=
  Only.setCells _ _ _ _ hb (fun j hj => .inl ⟨s, hs, rfl, by omega, by simp at hj; omega⟩)

/-- A cell behind writes to a slice: one of the slice's values, or what it was. -/
theorem cell_behind (w : World) (s : Sl) (h : Lies w s) (vs : List Value) (hv : vs.length = s.n) (p : Addr) (hp : p.spot = none) :
    (s.has p.block p.off ∧ (w.setCells s.b s.o vs).cell? p = vs[p.off - s.o]?) ∨ (¬ s.has p.block p.off ∧ (w.setCells s.b s.o vs).cell? p = w.cell? p) := by
  obtain ⟨b, i, sp⟩ := p
  obtain rfl : sp = none := hp
  by_cases hh : s.has b i
  · refine .inl ⟨hh, ?_⟩
    obtain ⟨rfl, h1, h2⟩ := hh
    have := World.cell?_setCells_in s.b vs s.o w (fun j hj => by obtain ⟨x, hx, _⟩ := h.cell j (by omega); rw [hx]; rfl) (i - s.o) (by omega)
    rw [show s.o + (i - s.o) = i by omega] at this
    rw [this]
    simp [show i - s.o < vs.length by omega]
  · refine .inr ⟨hh, ?_⟩
    refine World.cell?_setCells_out _ _ _ _ _ (fun e _ => ?_)
    simp only [Sl.has] at hh
    simp only at e ⊢
    subst e
    by_cases h1 : i < s.o
    · exact .inl h1
    · refine .inr ?_
      rcases Nat.lt_or_ge i (s.o + s.n) with h2 | h2
      · exact absurd ⟨rfl, by omega, h2⟩ hh
      · omega

end Go.Proofs.Ytghdeoeajbnfkaa.WSl

namespace Go.Proofs.Ytghdeoeajbnfkaa.WSl
open Go.RowKit Go.Proofs.YtghdeoeajbnfkaaW.PrintWords Go.Proofs.YtghdeoeajbnfkaaW.PrintLast Go.Proofs.YtghdeoeajbnfkaaW.PrintMore Go.Proofs.Ytghdeoeajbnfkaa.WMem
set_option linter.unusedSimpArgs false
set_option linter.unusedVariables false

/-- The octets that were there. -/
abbrev kept (w : World) (l : List Sl) : List (List Int) := l.map (octsOf w)

/-- Behind the clones. -/
structure Mid1 (w wr : World) (l : List Sl) (k : Nat) (v : Value) : Prop where
  below : Below w.heap.size w wr
  row : Kd.R KL 22 wr w.heap.size (fun j => w.heap.size ≤ j) v (kept w (l.take k))

/-- While slices are cleared. -/
structure Mid2 (w1 ws : World) (l : List Sl) (k : Nat) : Prop where
  only : Only (SF l) w1 ws
  zero : ∀ s ∈ l.take k, ∀ j, j < s.n → ws.cell? ⟨s.b, s.o + j, none⟩ = some (.int .u8 0)
  lies : ∀ s ∈ l, Lies ws s

/-- While slices are put back. -/
structure Mid3 (w w3 ws : World) (l : List Sl) (k : Nat) : Prop where
  only : Only (SF l) w3 ws
  back : ∀ s ∈ l.take k, ∀ j, j < s.n → ws.cell? ⟨s.b, s.o + j, none⟩ = w.cell? ⟨s.b, s.o + j, none⟩
  lies : ∀ s ∈ l, Lies ws s

theorem take_mem {l : List Sl} {k : Nat} {s : Sl} (h : s ∈ l.take k) : s ∈ l := List.mem_of_mem_take h
theorem take_next {l : List Sl} {k : Nat} (hk : k < l.length) : l.take (k + 1) = l.take k ++ [l[k]] := by simp
theorem sf_at {l : List Sl} {p : Nat} {i : Nat} : SF l p i → ∃ s ∈ l, s.has p i := id

theorem Mid2.next {w1 ws : World} {l : List Sl} {k : Nat} (h : Mid2 w1 ws l k) (hk : k < l.length) : Mid2 w1 (ws.setCells l[k].b l[k].o (List.replicate l[k].n (.int .u8 0))) l (k + 1) := by
  have hm : l[k] ∈ l := List.getElem_mem _
  have hL := h.lies _ hm
  have hcase := cell_behind ws l[k] hL (List.replicate l[k].n (.int .u8 0)) (by simp)
  have hO : Only (SF l) ws (ws.setCells l[k].b l[k].o (List.replicate l[k].n (.int .u8 0))) := cleared hm (Only.refl ws)
  refine ⟨h.only.trans hO, fun s hs j hj => ?_, fun s hs => Lies.only (h.lies s hs) hO (fun j hj => ?_)⟩
  · rcases hcase ⟨s.b, s.o + j, none⟩ rfl with ⟨h1, h2⟩ | ⟨h1, h2⟩
    · rw [h2]
      obtain ⟨h3, h4, h5⟩ := h1
      simp only at h4 h5 ⊢
      rw [List.getElem?_replicate, if_pos (by omega)]
    · rw [h2]
      rw [take_next hk] at hs
      rcases List.mem_append.1 hs with hs | hs
      · exact h.zero s hs j hj
      · obtain rfl := List.mem_singleton.1 hs
        exact absurd ⟨rfl, by simp, by simp; omega⟩ h1
  · rcases hcase ⟨s.b, s.o + j, none⟩ rfl with ⟨h1, h2⟩ | ⟨h1, h2⟩
    · rw [h2]
      obtain ⟨h3, h4, h5⟩ := h1
      simp only at h4 h5 ⊢
      exact ⟨0, by rw [List.getElem?_replicate, if_pos (by omega)]⟩
    · rw [h2]
      obtain ⟨x, hx, _⟩ := (h.lies s hs).cell j hj
      exact ⟨x, hx⟩

theorem Mid3.next {w w3 ws : World} {l : List Sl} {k : Nat} (h : Mid3 w w3 ws l k) (hw : ∀ s ∈ l, Lies w s) (hk : k < l.length) : Mid3 w w3 (ws.setCells l[k].b l[k].o ((octsOf w l[k]).map (.int .u8))) l (k + 1) := by
  have hm : l[k] ∈ l := List.getElem_mem _
  have hL := h.lies _ hm
  have hlen : ((octsOf w l[k]).map (Value.int .u8)).length = l[k].n := by simp [octsOf_length]
  have hcase := cell_behind ws l[k] hL ((octsOf w l[k]).map (.int .u8)) hlen
  have hO : Only (SF l) ws (ws.setCells l[k].b l[k].o ((octsOf w l[k]).map (.int .u8))) := copied hm _ (octsOf_length _ _) (Only.refl ws)
  have hin : ∀ p i, l[k].has p i → ((octsOf w l[k]).map (Value.int .u8))[i - l[k].o]? = w.cell? ⟨p, i, none⟩ := by
    rintro p i ⟨rfl, h1, h2⟩
    have := (hw _ hm).oct (i - l[k].o) (by omega)
    rw [show l[k].o + (i - l[k].o) = i by omega] at this
    rw [this, List.getElem?_map, List.getD_eq_getElem?_getD, List.getElem?_eq_getElem (by rw [octsOf_length]; omega)]
    rfl
  refine ⟨h.only.trans hO, fun s hs j hj => ?_, fun s hs => Lies.only (h.lies s hs) hO (fun j hj => ?_)⟩
  · rcases hcase ⟨s.b, s.o + j, none⟩ rfl with ⟨h1, h2⟩ | ⟨h1, h2⟩
    · rw [h2]
      exact hin _ _ h1
    · rw [h2]
      rw [take_next hk] at hs
      rcases List.mem_append.1 hs with hs | hs
      · exact h.back s hs j hj
      · obtain rfl := List.mem_singleton.1 hs
        exact absurd ⟨rfl, by simp, by simp; omega⟩ h1
  · rcases hcase ⟨s.b, s.o + j, none⟩ rfl with ⟨h1, h2⟩ | ⟨h1, h2⟩
    · rw [h2, hin _ _ h1]
      obtain ⟨x, hx, _⟩ := (hw s hs).cell j hj
      exact ⟨x, hx⟩
    · rw [h2]
      obtain ⟨x, hx, _⟩ := (h.lies s hs).cell j hj
      exact ⟨x, hx⟩

/-- A slice of the row that was kept. -/
theorem kept_at {w wr : World} {l : List Sl} {A : Option Addr} {c : Nat} (h : Kd.R KL 22 wr w.heap.size (fun j => w.heap.size ≤ j) (.slice A l.length c) (kept w l)) (k : Nat) (hk : k < l.length) :
    ∃ ad B c0, A = some ad ∧ wr.cell? (ad.add k) = some (.slice B l[k].n c0) ∧ ReadsInt wr .u8 B l[k].n (octsOf w l[k]) := by
  obtain ⟨_, _, hC⟩ := Kd.R_reads' h
  obtain ⟨ad, A0, c0, e, h1, h2, h3⟩ := PWatchSlices.at_L1 hC (k : Int) (by omega) (by simp; omega)
  have hr : PWatchSlices.rd_L1 (kept w l) (k : Int) = octsOf w l[k] := by
    simp [PWatchSlices.rd_L1, rdOf, kept, List.getD_eq_getElem?_getD, hk]
  rw [hr, octsOf_length] at h1 h3
  exact ⟨ad, A0, c0, e, by simpa using h1, Kd.reads_of_C (d := 0) h3⟩

theorem Mid1.slice {w wr : World} {l : List Sl} {k : Nat} {v : Value} (h : Mid1 w wr l k v) (hk : k ≤ l.length) : ∃ A c, v = .slice A k c := by
  obtain ⟨A, c, e⟩ := Kd.R_slice h.row
  refine ⟨A, c, ?_⟩
  rw [e, kept, List.length_map, List.length_take, Nat.min_eq_left hk]

theorem Mid1.next {w wr w3 : World} {l : List Sl} {k : Nat} {v : Value} {sk : Sl} (hk : k < l.length) (hs : l[k] = sk) (hx : octsOf wr sk = octsOf w sk) (h : Kd.R KL 22 w3 w.heap.size (fun j => w.heap.size ≤ j) v (kept w (l.take k) ++ [octsOf wr sk])) (hb : Below w.heap.size w w3) : Mid1 w w3 l (k + 1) v := by
  subst hs
  refine ⟨hb, ?_⟩
  rw [hx] at h
  rw [take_next hk]
  show Kd.R KL _ w3 _ _ v ((l.take k ++ [l[k]]).map (octsOf w))
  rw [List.map_append]
  exact h

/-- What was kept stays where slices and variables alone are written. -/
theorem kept_stays {w w1 w2 : World} {l : List Sl} {V : Nat → Nat → Prop} {v : Value} {xss : List (List Int)} (h : Kd.R KL 22 w1 w.heap.size (fun j => w.heap.size ≤ j) v xss) (hs : ∀ s ∈ l, Lies w s) (hV : ∀ k i, V k i → k < w.heap.size) (hb : Only (fun k i => SF l k i ∨ V k i) w1 w2) : Kd.R KL 22 w2 w.heap.size (fun j => w.heap.size ≤ j) v xss :=
  Kd.R_step h (fun k hk hlt => hb.keep hlt (fun i hi => by
    rcases hi with ⟨s, hsl, hh⟩ | hh
    · have := (hs s hsl).lt' hh; omega
    · have := hV k i hh; omega))

theorem Only.sf {l : List Sl} {V : Nat → Nat → Prop} {w w1 : World} (h : Only (SF l) w w1) : Only (fun k i => SF l k i ∨ V k i) w w1 := h.mono (fun _ _ => .inl)

/-- All of it, behind the last copy. -/
theorem put_back {w w1 w2 w3 ws : World} {l : List Sl} {V : Nat → Nat → Prop} (h1 : Below w.heap.size w w1) (h2 : Only (SF l) w1 w2) (h3 : Only (fun k i => SF l k i ∨ V k i) w2 w3) (h4 : Only (SF l) w3 ws)
    (hb : ∀ s ∈ l, ∀ j, j < s.n → ws.cell? ⟨s.b, s.o + j, none⟩ = w.cell? ⟨s.b, s.o + j, none⟩) : Only V w ws := by
  have h : Only (fun k i => SF l k i ∨ V k i) w ws := ((Only.of_below h1 (Nat.le_refl _)).trans (Only.sf h2)).trans (h3.trans (Only.sf h4))
  refine h.restored (fun k i hF _ _ => ?_)
  obtain ⟨s, hs, rfl, g1, g2⟩ := hF
  have := hb s hs (i - s.o) (by omega)
  rwa [show s.o + (i - s.o) = i by omega] at this

set_option maxHeartbeats 4000000 in
set_option maxRecDepth 100000 in
theorem tried (A : Option Addr) (g o c : Nat) (l : List Sl) (caps : Array Value) (V : Nat → Nat → Prop) (Res : World → Prop) (w : World)
    (hl : RowAt w A g o l) (hg : ∀ i, ¬ SF l g i) (hgV : ∀ i, ¬ V g i) (hs : ∀ s ∈ l, Lies w s) (hn : l.length ≤ 1000000) (hV : ∀ k i, V k i → k < w.heap.size)
    (hdo : ∀ w1 w2, Below w.heap.size w w1 → Only (SF l) w1 w2 → (∀ s ∈ l, Zero w2 s) → Calls Try.prog 29 caps w2 fun e w3 => e = .returned (.tuple #[]) ∧ Only (fun k i => SF l k i ∨ V k i) w2 w3 ∧ (∀ s ∈ l, Lies w3 s) ∧ Res w3)
    (hRes : ∀ w3 w4, Only (SF l) w3 w4 → Res w3 → Res w4) :
    Calls Try.prog 27 #[.slice A l.length c, .func (.func 29) #[] caps] w fun e w' => e = .returned (.tuple #[]) ∧ Only V w w' ∧ Res w' := by
  have HL := Aside0.mk hl
  have HS := Aside0.mk hs
  have HD := Aside0.mk hdo
  have HR := Aside0.mk hRes
  have HG := Aside0.mk hg
  have HGV := Aside0.mk hgV
  have HVL := Aside0.mk hV
  clear hl hs hdo hRes hg hgV hV
  generalize hln : l.length = n at hn
  have HN := Lib.hid hln
  clear hln
  go_enter Try.func27, Try.ntmps27
  go_wp2
  go_loopw [4, 6, 13] (fun v _ i wr => ∃ k : Nat, k ≤ n ∧ i = .int .i64 k ∧ Aside0 (Mid1 w wr l k v)) (fun _ _ i _ => n - (intOf i).toNat)
  case atStart => exact ⟨0, Nat.zero_le _, rfl, ⟨Below.refl _ _, Kd.R_nil _ _ _ _ _⟩⟩
  case round =>
    obtain ⟨k, hk, rfl, HM⟩ := hrel
    by_cases hlt : k < n
    · have hkl : k < l.length := by rw [HN.out]; exact hlt
      have hrow := HL.out.below HM.out.below
      have hA := hrow.A (by omega)
      subst hA
      have hcell := hrow.cell k l[k] (by simp)
      have hLk := Lies.below (HS.out l[k] (List.getElem_mem _)) HM.out.below
      have hOk := octsOf_below (HS.out l[k] (List.getElem_mem _)) HM.out.below
      have HK := Lib.hid hkl
      generalize hsk : l[k] = sk at hcell hLk hOk
      have HSK := Aside0.mk hsk
      have HLk := Aside0.mk hLk
      have HOk := Aside0.mk hOk
      generalize hsv : sk.val = sv at hcell
      have HSV := Aside0.mk hsv
      clear hkl hrow hLk hOk hsk hsv
      obtain ⟨A4, c4, rfl⟩ := HM.out.slice (by rw [HN.out]; exact hk)
      go_wp2_with (first | (go_at_call 32; rw [← HSV.out]; refine (clone sk _ HLk.out).mono ?_; rintro e w2 ⟨v1, rfl, hv, hb⟩; obtain ⟨A1, c1, rfl⟩ := Kd.R_slice hv; have HV1 := Aside0.mk hv; have HB1 := Aside0.mk hb; clear hv hb) | (at_builtin; refine Kd.R_append KL (w0 := w) w.heap.size rfl (.tmp 17) (.tmp 20) 31 22 (.slice none 0 0) 24 rfl Try.underlying31 info22 rfl (by decide) (by omega) _ (kept w (l.take k)) (octsOf wr sk) [.slice A1 (octsOf wr sk).length c1] (fun j => w.heap.size ≤ j) (fun j => wr.heap.size ≤ j) rfl rfl ?aP ?aK ?aF ?aO ?aB ?aS ?aL ?_; (case aP => exact ⟨_, rfl, Kd.R_lower HV1.out HM.out.below.size⟩); (case aK => exact (fun j hj => ⟨Nat.le_trans HM.out.below.size hj, fun e => absurd (Kd.R_lt HM.out.row _ e.symm) (by omega)⟩)); (case aF => exact (fun j hj => Nat.le_trans (Nat.le_trans HM.out.below.size HB1.out.size) hj)); (case aO => exact Kd.R_below HM.out.row HB1.out); (case aB => exact HM.out.below.trans (HB1.out.mono HM.out.below.size)); (case aS => exact Nat.le_trans HM.out.below.size HB1.out.size); (case aL => simp [kept]; omega); intro v1 w9 ho hb hg hat; have HO1 := Aside0.mk ho; have HB9 := Aside0.mk hb; clear ho hb hg hat))
      go_roundw
      case rel => exact ⟨k + 1, by omega, by go_num, ⟨Mid1.next HK.out HSK.out HOk.out HO1.out HB9.out⟩⟩
      case measure => simp [intOf]; omega
    · have hkn : k = n := by omega
      subst hkn
      obtain ⟨w1, hw1⟩ : ∃ w1, w1 = wr := ⟨_, rfl⟩
      subst hw1
      obtain ⟨A4, c4, rfl⟩ := HM.out.slice (by rw [HN.out]; exact hk)
      have HL1 := Aside0.mk (HL.out.below HM.out.below)
      go_wp2
      go_loopw [8, 25] (fun _ i ws => ∃ q : Nat, q ≤ k ∧ i = .int .i64 q ∧ Aside0 (Mid2 w1 ws l q)) (fun _ i _ => k - (intOf i).toNat)
      case atStart => exact ⟨0, Nat.zero_le _, rfl, ⟨Only.refl _, fun s hs => by simp at hs, fun s hs => Lies.below (HS.out s hs) HM.out.below⟩⟩
      case round =>
        obtain ⟨q, hq, rfl, HM2⟩ := hrel
        by_cases hlt2 : q < k
        · have hql : q < l.length := by rw [HN.out]; exact hlt2
          have hrow := HL1.out.only HM2.out.only HG.out
          have hA := hrow.A (by omega)
          subst hA
          have hcell := hrow.cell q l[q] (by simp)
          have HX := Aside0.mk (HM2.out.next hql)
          have hcl := fun ty => run_clear wr l[q] (HM2.out.lies _ (List.getElem_mem _)) ty
          generalize wr.setCells l[q].b l[q].o (List.replicate l[q].n (.int .u8 0)) = wn at hcl HX
          generalize l[q].val = sv at hcell hcl
          clear hrow
          go_wp2
          go_roundw
          case rel => exact ⟨q + 1, by omega, by go_num, HX⟩
          case measure => simp [intOf]; omega
        · have hqn : q = k := by omega
          subst hqn
          obtain ⟨w2, hw2⟩ : ∃ w2, w2 = wr := ⟨_, rfl⟩
          subst hw2
          have htake : l.take q = l := by rw [← HN.out]; exact List.take_length
          have HZ := Aside0.mk (show ∀ s ∈ l, Zero w2 s from fun s hs => ⟨HM2.out.lies s hs, HM2.out.zero s (by rw [htake]; exact hs)⟩)
          have HT := Lib.hid htake
          clear htake
          go_wp2_with (first | (go_at_call 29; refine (HD.out w1 w2 HM.out.below HM2.out.only HZ.out).mono ?_; rintro e w3 ⟨rfl, h3, hl3, hr3⟩; have H3 := Aside0.mk h3; have HL3 := Aside0.mk hl3; have HR3 := Aside0.mk hr3; clear h3 hl3 hr3))
          have HW3 := Aside0.mk ((HL1.out.only HM2.out.only HG.out).only H3.out (fun i hi => hi.elim (HG.out i) (HGV.out i)))
          have HK3 := Aside0.mk (kept_stays (kept_stays (V := V) HM.out.row HS.out HVL.out (Only.sf HM2.out.only)) HS.out HVL.out H3.out)
          go_loopw [9, 10, 35] (fun _ _ i ws => ∃ p : Nat, p ≤ q ∧ i = .int .i64 p ∧ Aside0 (Mid3 w w3 ws l p)) (fun _ _ i _ => q - (intOf i).toNat)
          case atStart => exact ⟨0, Nat.zero_le _, rfl, ⟨Only.refl _, fun s hs => by simp at hs, HL3.out⟩⟩
          case round =>
            obtain ⟨p, hp, rfl, HM3⟩ := hrel
            by_cases hlt3 : p < q
            · have hpl : p < l.length := by rw [HN.out]; exact hlt3
              have hrow := HW3.out.only HM3.out.only HG.out
              have hA := hrow.A (by omega)
              subst hA
              have hcell := hrow.cell p l[p] (by simp)
              have hkept := kept_stays (V := V) HK3.out HS.out HVL.out (Only.sf HM3.out.only)
              rw [HT.out] at hkept
              have hkept2 : Kd.R KL 22 wr w.heap.size (fun j => w.heap.size ≤ j) (.slice A4 l.length c4) (kept w l) := by rw [HN.out]; exact hkept
              obtain ⟨ad, B, c0, rfl, hkc, hkr⟩ := kept_at hkept2 p hpl
              have HX := Aside0.mk (HM3.out.next HS.out hpl)
              have hcl := fun ty => run_copy wr l[p] (HM3.out.lies _ (List.getElem_mem _)) B c0 (octsOf w l[p]) (octsOf_length _ _) hkr ty
              generalize wr.setCells l[p].b l[p].o ((octsOf w l[p]).map (.int .u8)) = wn at hcl HX
              generalize l[p].val = sv at hcell hcl
              generalize l[p].n = m at hkc hcl
              clear hrow hkept hkept2 hkr
              go_wp2
              go_roundw
              case rel => exact ⟨p + 1, by omega, by go_num, HX⟩
              case measure => simp [intOf]; omega
            · have hpq : p = q := by omega
              subst hpq
              have HO := Aside0.mk (put_back HM.out.below HM2.out.only H3.out HM3.out.only (fun s hs => HM3.out.back s (by rw [HT.out]; exact hs)))
              have HE := Aside0.mk (HR.out _ _ HM3.out.only HR3.out)
              go_wp2
              go_end0
              exact ⟨rfl, HO.out, HE.out⟩

end Go.Proofs.Ytghdeoeajbnfkaa.WSl
