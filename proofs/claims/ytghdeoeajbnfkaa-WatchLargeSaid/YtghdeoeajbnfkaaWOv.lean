/- overlap, same, meets. -/
import Derived.Test.YtghdeoeajbnfkaaWOv1
namespace Go.Proofs.Ytghdeoeajbnfkaa.WSl
open Go.RowKit Go.Proofs.YtghdeoeajbnfkaaW.PrintWords Go.Proofs.YtghdeoeajbnfkaaW.PrintLast Go.Proofs.YtghdeoeajbnfkaaW.PrintMore Go.Proofs.Ytghdeoeajbnfkaa.WMem
set_option linter.unusedSimpArgs false
set_option linter.unusedVariables false

theorem sf_two {a b : Sl} {k i : Nat} (h : SF [a, b] k i) : a.has k i ∨ b.has k i := by
  obtain ⟨s, hs, hh⟩ := h
  simp at hs
  rcases hs with rfl | rfl
  · exact .inl hh
  · exact .inr hh
theorem sf_lt {a b : Sl} {w : World} (ha : Lies w a) (hb : Lies w b) {k i : Nat} (h : SF [a, b] k i) : k < w.heap.size := by
  rcases sf_two h with h | h
  · exact ha.lt' h
  · exact hb.lt' h

/-- The world behind overlap's variables. -/
def ovWorld (w : World) (a b : Sl) : World :=
  (((((w.alloc (.cells #[a.val] 22)).alloc (.cells #[b.val] 22)).alloc (.cells #[.int .i64 0] 3)).alloc (.cells #[.int .i64 0] 3)).alloc (.cells #[.int .i64 0] 3)).alloc (.cells #[a.val, b.val] 22)

theorem ov_below (w : World) (a b : Sl) : Below w.heap.size w (ovWorld w a b) := by
  unfold ovWorld
  repeat (first | exact Below.refl _ _ | apply below_alloc)

theorem ov_size (w : World) (a b : Sl) : (ovWorld w a b).heap.size = w.heap.size + 6 := by
  simp [ovWorld]

theorem ov_heap (w : World) (a b : Sl) : (ovWorld w a b).heap = w.heap ++ #[.cells #[a.val] 22, .cells #[b.val] 22, .cells #[.int .i64 0] 3, .cells #[.int .i64 0] 3, .cells #[.int .i64 0] 3, .cells #[a.val, b.val] 22] := by
  have h : (ovWorld w a b).heap = (((((w.heap.push (.cells #[a.val] 22)).push (.cells #[b.val] 22)).push (.cells #[.int .i64 0] 3)).push (.cells #[.int .i64 0] 3)).push (.cells #[.int .i64 0] 3)).push (.cells #[a.val, b.val] 22) := rfl
  rw [h]
  apply Array.ext'
  simp

theorem setCell_self {w : World} {p : Addr} {v : Value} (h : w.cell? p = some v) (hp : p.spot = none) : w.setCell p v = w := by
  obtain ⟨heap, tape, drawn, os, output⟩ := w
  simp only [World.setCell]
  congr 1
  apply Array.ext_getElem?
  intro i
  rw [Array.getElem?_modify]
  split
  · next hi =>
    subst hi
    simp only [World.cell?] at h
    cases hq : heap[p.block]? with
    | none => rfl
    | some o =>
      rw [hq] at h
      cases o with
      | cells c t f =>
        simp only [hp, Option.isSome_none, Bool.false_eq_true, if_false, Option.map_some, Option.some.injEq] at h ⊢
        congr 1
        apply Array.ext_getElem?
        intro j
        rw [Array.getElem?_setIfInBounds]
        split
        · next hj =>
          subst hj
          have := (Array.getElem?_eq_some_iff.1 h).1
          rw [if_pos this, h]
        · rfl
      | _ => simp at h
  · rfl

theorem ov_boxes (w : World) (a b : Sl) : Boxes (ovWorld w a b) w.heap.size a b (0, 0, 0) := by
  constructor <;> simp [World.cell?, World.frozen?, ov_heap, Array.getElem?_append]

theorem ov_row (w : World) (a b : Sl) : RowAt (ovWorld w a b) (some ⟨w.heap.size + 5, 0, none⟩) (w.heap.size + 5) 0 [a, b] :=
  ⟨fun _ => rfl, fun i s hi => by
    match i with
    | 0 => simp at hi; subst hi; simp [World.cell?, ov_heap, Array.getElem?_append]
    | 1 => simp at hi; subst hi; simp [World.cell?, ov_heap, Array.getElem?_append]
    | i + 2 => simp at hi⟩

/-- tried, on overlap's closure. -/
theorem ov_tried (w : World) (a b : Sl) (ha : Lies w a) (hb : Lies w b) :
    Calls Try.prog 27 #[.slice (some ⟨w.heap.size + 5, 0, none⟩) 2 2, .func (.func 29) #[] #[.pointer (some ⟨w.heap.size, 0, none⟩), .pointer (some ⟨w.heap.size + 1, 0, none⟩), .pointer (some ⟨w.heap.size + 3, 0, none⟩), .pointer (some ⟨w.heap.size + 4, 0, none⟩), .pointer (some ⟨w.heap.size + 2, 0, none⟩)]] (ovWorld w a b) fun e w' =>
      e = .returned (.tuple #[]) ∧ Below w.heap.size w w' ∧ Boxes w' w.heap.size a b (ovr a b) := by
  have hB := ov_below w a b
  have hsz := ov_size w a b
  have hF : ∀ k i, SF [a, b] k i → k < w.heap.size := fun k i h => sf_lt ha hb h
  have := tried (some ⟨w.heap.size + 5, 0, none⟩) (w.heap.size + 5) 0 2 [a, b] #[.pointer (some ⟨w.heap.size, 0, none⟩), .pointer (some ⟨w.heap.size + 1, 0, none⟩), .pointer (some ⟨w.heap.size + 3, 0, none⟩), .pointer (some ⟨w.heap.size + 4, 0, none⟩), .pointer (some ⟨w.heap.size + 2, 0, none⟩)]
    (VF w.heap.size) (fun w' => Boxes w' w.heap.size a b (ovr a b)) (ovWorld w a b) (ov_row w a b) (fun i h => by have := hF _ _ h; omega) (fun i h => by have := h.2; omega)
    (fun s hs => by
      simp at hs
      rcases hs with rfl | rfl
      · exact Lies.below ha hB
      · exact Lies.below hb hB) (by simp) (fun k i h => by have := h.2; omega)
    (fun w1 w2 h1 h2 hz => by
      refine (overlap1 w.heap.size a b w2 (hz a (by simp)) (hz b (by simp)) ?_ (fun hn => ha.lt hn) (fun hn => hb.lt hn)).mono ?_
      · have := (ov_boxes w a b)
        have hb1 : Boxes w1 w.heap.size a b (0, 0, 0) := by
          have := Boxes.only (F := fun _ _ => False) this (Only.of_below h1 (Nat.le_refl _)) (fun _ _ h => h.elim)
          exact this
        exact hb1.only h2 hF
      · rintro e w3 ⟨rfl, g1, g2⟩
        refine ⟨rfl, g1.mono (fun _ _ => .inr), fun s hs => Lies.only (hz s hs).lies g1 (fun j hj => ⟨0, ?_⟩), g2⟩
        rw [← (hz s hs).zero j hj]
        refine g1.cell ⟨s.b, s.o + j, none⟩ (cell_lt ((hz s hs).zero j hj)) (fun hh => ?_)
        have := hF s.b (s.o + j) ⟨s, hs, rfl, by omega, by omega⟩
        have := hh.1
        simp only at this
        omega)
    (fun w3 w4 h1 h2 => h2.only h1 hF)
  refine this.mono ?_
  rintro e w' ⟨rfl, h1, h2⟩
  refine ⟨rfl, hB.trans (h1.below (by rw [hsz]; omega) (fun k i h => by have := h.1; omega)), h2⟩

theorem load3 (w : World) (p : Nat) (x : Int) (c : w.cell? ⟨p, 0, none⟩ = some (.int .i64 x)) : (loadVar 3 ⟨p, 0, none⟩).run Try.prog w = .ok (.int .i64 x) w := by
  simp [go_sem, loadVar, c]

theorem results3 (tmps : Array Value) (w : World) (p q r : Nat) (x y z : Int) (h4 : tmps.getD 4 undef = .pointer (some ⟨p, 0, none⟩)) (h5 : tmps.getD 5 undef = .pointer (some ⟨q, 0, none⟩)) (h6 : tmps.getD 6 undef = .pointer (some ⟨r, 0, none⟩))
    (c4 : w.cell? ⟨p, 0, none⟩ = some (.int .i64 x)) (c5 : w.cell? ⟨q, 0, none⟩ = some (.int .i64 y)) (c6 : w.cell? ⟨r, 0, none⟩ = some (.int .i64 z)) :
    (results Try.f22 tmps).run Try.prog w = .ok (.tuple #[.int .i64 x, .int .i64 y, .int .i64 z]) w := by
  have hres : Try.f22.results = #[.cell 4 3, .cell 5 3, .cell 6 3] := rfl
  have g4 : tmps[4]?.getD undef = .pointer (some ⟨p, 0, none⟩) := by simpa using h4
  have g5 : tmps[5]?.getD undef = .pointer (some ⟨q, 0, none⟩) := by simpa using h5
  have g6 : tmps[6]?.getD undef = .pointer (some ⟨r, 0, none⟩) := by simpa using h6
  simp [results, hres, g4, g5, g6, asAddr, load3 w _ _ c4, load3 w _ _ c5, load3 w _ _ c6]

set_option maxHeartbeats 4000000 in
set_option maxRecDepth 100000 in
theorem overlap (a b : Sl) (w : World) (ha : Lies w a) (hb : Lies w b) :
    Calls Try.prog 22 #[a.val, b.val] w fun e w' => e = .returned (.tuple #[.int .i64 (ovr a b).1, .int .i64 (ovr a b).2.1, .int .i64 (ovr a b).2.2]) ∧ Below w.heap.size w w' := by
  have hmf : ∀ (fn : Fn) (first cap : Array Value) (w : World), (Instr.makeFunc fn first cap).run Try.prog w = .ok (.func fn first cap) w := fun _ _ _ _ => rfl
  have HT := Aside0.mk (ov_tried w a b ha hb)
  have hva : a.val = .slice a.A a.n a.c := rfl
  have hvb : b.val = .slice b.A b.n b.c := rfl
  have HW := Lib.hid (show ovWorld w a b = (((((w.alloc (.cells #[a.val] 22)).alloc (.cells #[b.val] 22)).alloc (.cells #[.int .i64 0] 3)).alloc (.cells #[.int .i64 0] 3)).alloc (.cells #[.int .i64 0] 3)).alloc (.cells #[a.val, b.val] 22) from rfl)
  rw [hva, hvb] at HW
  rw [hva, hvb]
  generalize a.A = aA at hva HW
  generalize a.c = ac at hva HW
  generalize a.n = an at hva HW
  generalize b.A = bA at hvb HW
  generalize b.c = bc at hvb HW
  generalize b.n = bn at hvb HW
  have HVA := Aside0.mk hva
  have HVB := Aside0.mk hvb
  clear hva hvb ha hb
  go_enter Try.func22, Try.ntmps22
  go_wp2_with fail
  rw [← HW.out]
  refine HT.out.mono ?_
  rintro e w' ⟨rfl, hB, hX⟩
  have HB := Aside0.mk hB
  have d2 : w'.cell? ⟨w.heap.size + 1 + 1, 0, none⟩ = some (.int .i64 (ovr a b).1) := hX.c2
  have d3 : w'.cell? ⟨w.heap.size + 1 + 1 + 1, 0, none⟩ = some (.int .i64 (ovr a b).2.1) := hX.c3
  have d4 : w'.cell? ⟨w.heap.size + 1 + 1 + 1 + 1, 0, none⟩ = some (.int .i64 (ovr a b).2.2) := hX.c4
  have g2 : w'.frozen? ⟨w.heap.size + 1 + 1, 0, none⟩ = false := hX.f2
  have g3 : w'.frozen? ⟨w.heap.size + 1 + 1 + 1, 0, none⟩ = false := hX.f3
  have g4 : w'.frozen? ⟨w.heap.size + 1 + 1 + 1 + 1, 0, none⟩ = false := hX.f4
  have e2 := setCell_self d2 rfl
  have e3 := setCell_self d3 rfl
  have e4 := setCell_self d4 rfl
  generalize hr : ovr a b = r at *
  obtain ⟨r1, r2, r3⟩ := r
  dsimp only at *
  have HR := Lib.hid hr
  clear hr
  clear hB hX HT HW
  generalize w.heap.size + 1 + 1 + 1 + 1 = p4 at *
  generalize w.heap.size + 1 + 1 + 1 = p3 at *
  generalize w.heap.size + 1 + 1 = p2 at *
  go_wp2_with fail
  go_region
  have HB5 := Aside0.mk (below_drew HB.out)
  have k2 : w'.drew.cell? ⟨p2, 0, none⟩ = some (.int .i64 r1) := d2
  have k3 : w'.drew.cell? ⟨p3, 0, none⟩ = some (.int .i64 r2) := d3
  have k4 : w'.drew.cell? ⟨p4, 0, none⟩ = some (.int .i64 r3) := d4
  generalize w'.drew = w5 at *
  clear HB d2 d3 d4 g2 g3 g4 e2 e3 e4
  go_wp2
  refine bodyPost_ret (results3 _ w5 p2 p3 p4 r1 r2 r3 rfl rfl rfl k2 k3 k4) rfl ?_
  rw [HR.out]
  exact ⟨rfl, HB5.out⟩

end Go.Proofs.Ytghdeoeajbnfkaa.WSl
