/- Slices that are cleared, and put back: the pure part. -/
import Derived.Test.YtghdeoeajbnfkaaWApp
namespace Go.Proofs.Ytghdeoeajbnfkaa.WSl
open Go.RowKit Go.Proofs.YtghdeoeajbnfkaaW.PrintWords Go.Proofs.YtghdeoeajbnfkaaW.PrintLast Go.Proofs.YtghdeoeajbnfkaaW.PrintMore Go.Proofs.Ytghdeoeajbnfkaa.WMem
set_option linter.unusedSimpArgs false
set_option linter.unusedVariables false

theorem info22 : (Try.prog.info? 22).map (fun i => (i.zero, i.size, i.bytes)) = some (some (.slice none 0 0), 1, 24) := by kernel_rfl
theorem infoU1 : (Try.prog.info? 5).map (·.size) = some 1 := by kernel_rfl
theorem zeroU8 (w : World) : (zeroValue 5).run Try.prog w = .ok (.int .u8 0) w := by rfl

abbrev KL : Kd (List Int) := Kd.slice 5 (Kd.int .u8)

/-- A row of slices. -/
structure RowAt (w : World) (A : Option Addr) (g o : Nat) (l : List Sl) : Prop where
  A : 0 < l.length → A = some ⟨g, o, none⟩
  cell : ∀ i s, l[i]? = some s → w.cell? ⟨g, o + i, none⟩ = some s.val

theorem RowAt.below {w w1 : World} {A : Option Addr} {g o : Nat} {l : List Sl} (h : RowAt w A g o l) (hb : Below w.heap.size w w1) : RowAt w1 A g o l :=
  ⟨h.A, fun i s hi => by
    have := h.cell i s hi
    rw [← this]
    exact hb.cell (p := ⟨g, o + i, none⟩) (cell_lt this)⟩

theorem RowAt.only {w w1 : World} {A : Option Addr} {g o : Nat} {l : List Sl} {F : Nat → Nat → Prop} (h : RowAt w A g o l) (hb : Only F w w1) (hF : ∀ i, ¬ F g i) : RowAt w1 A g o l :=
  ⟨h.A, fun i s hi => by
    have := h.cell i s hi
    rw [← this]
    exact hb.cell ⟨g, o + i, none⟩ (cell_lt this) (hF _)⟩

theorem Lies.below {w w1 : World} {s : Sl} (h : Lies w s) (hb : Below w.heap.size w w1) : Lies w1 s :=
  ⟨h.nil, h.le, h.small, fun j hj => by
    obtain ⟨x, hx, hf⟩ := h.cell j hj
    have hlt : s.b < w.heap.size := cell_lt hx
    exact ⟨x, by rw [← hx]; exact hb.cell (p := ⟨s.b, s.o + j, none⟩) hlt, by rw [← hf]; exact hb.frozen (p := ⟨s.b, s.o + j, none⟩) hlt⟩⟩

theorem octsOf_below {w w1 : World} {s : Sl} (h : Lies w s) (hb : Below w.heap.size w w1) : octsOf w1 s = octsOf w s := by
  unfold octsOf
  refine List.map_congr_left (fun j hj => ?_)
  have hj : j < s.n := by simpa using hj
  rw [hb.cell (p := ⟨s.b, s.o + j, none⟩) (h.lt (by omega))]

/-- Behind writes to the slices alone, of octets, a slice still lies. -/
theorem Lies.only {w w1 : World} {s : Sl} {F : Nat → Nat → Prop} (h : Lies w s) (hb : Only F w w1) (hx : ∀ j, j < s.n → ∃ x : Int, w1.cell? ⟨s.b, s.o + j, none⟩ = some (.int .u8 x)) : Lies w1 s :=
  ⟨h.nil, h.le, h.small, fun j hj => by
    obtain ⟨x, hx⟩ := hx j hj
    obtain ⟨y, hy, hf⟩ := h.cell j hj
    exact ⟨x, hx, by rw [hb.frozen ⟨s.b, s.o + j, none⟩ (cell_lt hy)]; exact hf⟩⟩

theorem Sl.A_some {s : Sl} (h : s.nul = true → s.n = 0 ∧ s.c = 0) (hn : 0 < s.n) : s.A = some ⟨s.b, s.o, none⟩ := by
  unfold Sl.A
  split
  · next hq => have := (h hq).1; omega
  · rfl

/-- clear of a slice. -/
theorem run_clear (w : World) (s : Sl) (h : Lies w s) (ty : TypeId) : (Builtin.clear_ #[22] ty #[s.val]).run Try.prog w = .ok (.tuple #[]) (w.setCells s.b s.o (List.replicate s.n (.int .u8 0))) := by
  by_cases hn : 0 < s.n
  · unfold Sl.val
    rw [Sl.A_some h.nil hn]
    exact Lib.run_clear_slice (P := Try.prog) w 22 5 ty (.int .u8 0) Try.underlying22 zeroU8 rfl rfl s.b s.o s.n s.c hn (fun j hj => by obtain ⟨x, hx, _⟩ := h.cell j hj; rw [hx]; rfl) (fun j hj => (h.cell j hj).choose_spec.2)
  · have h0 : s.n = 0 := by omega
    unfold Sl.val
    rw [h0]
    generalize s.A = A
    cases A <;> simp [Builtin.clear_, run_underlying Try.underlying22, World.setCells, zeroU8]

/-- copy of octets into a slice. -/
theorem run_copy (w : World) (s : Sl) (h : Lies w s) (A : Option Addr) (c : Nat) (xs : List Int) (hx : xs.length = s.n) (hr : ReadsInt w .u8 A s.n xs) (ty : TypeId) :
    (Builtin.copy_ #[22, 22] ty #[s.val, .slice A s.n c]).run Try.prog w = .ok (goInt s.n) (w.setCells s.b s.o (xs.map (.int .u8))) := by
  by_cases hn : 0 < s.n
  · unfold Sl.val
    rw [Sl.A_some h.nil hn]
    obtain ⟨ad, rfl, hc⟩ := hr.2.2 hn
    have := Go.run_copy_cells (P := Try.prog) w 22 22 ty 5 s.b s.o s.n s.c ad s.n c (xs.map (.int .u8)) Try.underlying22 infoU1 (by simp [hx]) (fun j v hj => by
        have hlt : j < s.n := by
          have := (List.getElem?_eq_some_iff.1 hj).1
          simpa [hx] using this
        rw [hc j hlt, ← hj, List.getElem?_map, List.getD_eq_getElem?_getD, List.getElem?_eq_getElem (by omega)]
        rfl)
      (fun j hj => by obtain ⟨x, hx', _⟩ := h.cell j (by simpa [hx] using hj); rw [hx']; rfl) (fun j hj => (h.cell j (by simpa [hx] using hj)).choose_spec.2)
      (by intro v hv; obtain ⟨x, _, rfl⟩ := List.mem_map.1 hv; rfl)
    rw [this]
    simp [hx]
  · have h0 : s.n = 0 := by omega
    unfold Sl.val
    have hxs : xs = [] := List.eq_nil_of_length_eq_zero (by omega)
    rw [h0, hxs]
    have := Go.run_copy_none (P := Try.prog) w 22 22 ty 5 s.A A 0 s.c 0 c Try.underlying22 infoU1 rfl
    rw [this]
    rfl

/-- What clear leaves. -/
theorem cleared {w w0 : World} {l : List Sl} {s : Sl} (hs : s ∈ l) (hb : Only (SF l) w0 w) : Only (SF l) w0 (w.setCells s.b s.o (List.replicate s.n (.int .u8 0))) :=
  Only.setCells _ _ _ _ hb (fun j hj => .inl ⟨s, hs, rfl, by omega, by simp at hj; omega⟩)

theorem copied {w w0 : World} {l : List Sl} {s : Sl} (hs : s ∈ l) (xs : List Int) (hx : xs.length = s.n) (hb : Only (SF l) w0 w) : Only (SF l) w0 (w.setCells s.b s.o (xs.map (.int .u8))) :=
  Only.setCells _ _ _ _ hb (fun j hj => .inl ⟨s, hs, rfl, by omega, by simp at hj; omega⟩)

/-- A cell behind writes to a slice: one of the slice's values, or what it was. -/
theorem cell_behind (w : World) (s : Sl) (h : Lies w s) (vs : List Value) (hv : vs.length = s.n) (p : Addr) (hp : p.spot = none) :
    (s.has p.block p.off ∧ (w.setCells s.b s.o vs).cell? p = vs[p.off - s.o]?) ∨ (¬ s.has p.block p.off ∧ (w.setCells s.b s.o vs).cell? p = w.cell? p) := by
  obtain ⟨b, i, sp⟩ := p
  obtain rfl : sp = none := hp
  by_cases hh : s.has b i
  · refine .inl ⟨hh, ?_⟩
    obtain ⟨rfl, h1, h2⟩ := hh
    have := World.cell?_setCells_in s.b vs s.o w (fun j hj => by obtain ⟨x, hx, _⟩ := h.cell j (by omega); rw [hx]; rfl) (i - s.o) (by omega)
    rw [show s.o + (i - s.o) = i by omega] at this
    rw [this]
    simp [show i - s.o < vs.length by omega]
  · refine .inr ⟨hh, ?_⟩
    refine World.cell?_setCells_out _ _ _ _ _ (fun e _ => ?_)
    simp only [Sl.has] at hh
    simp only at e ⊢
    subst e
    by_cases h1 : i < s.o
    · exact .inl h1
    · refine .inr ?_
      rcases Nat.lt_or_ge i (s.o + s.n) with h2 | h2
      · exact absurd ⟨rfl, by omega, h2⟩ hh
      · omega

end Go.Proofs.Ytghdeoeajbnfkaa.WSl
