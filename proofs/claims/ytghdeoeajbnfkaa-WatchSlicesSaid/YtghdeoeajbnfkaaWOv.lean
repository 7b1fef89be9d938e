/- overlap, same, meets. -/
import Derived.Test.YtghdeoeajbnfkaaWTried
namespace Go.Proofs.Ytghdeoeajbnfkaa.WSl
open Go.RowKit Go.Proofs.YtghdeoeajbnfkaaW.PrintWords Go.Proofs.YtghdeoeajbnfkaaW.PrintLast Go.Proofs.YtghdeoeajbnfkaaW.PrintMore Go.Proofs.Ytghdeoeajbnfkaa.WMem
attribute [local go_sem] max2_int min2_int max_two min_two
set_option linter.unusedSimpArgs false
set_option linter.unusedVariables false

theorem appr_bounds (a b : Sl) : -1 ≤ appr a b ∧ (0 ≤ appr a b → appr a b < b.n) := by
  unfold appr
  split
  · next h => exact ⟨by omega, fun _ => by omega⟩
  · exact ⟨by omega, fun h => by omega⟩

/-- What two slices share. -/
def ovr (a b : Sl) : Int × Int × Int :=
  if 0 ≤ appr a b then (0, appr a b, if (b.n : Int) - appr a b < a.n then (b.n : Int) - appr a b else a.n)
  else if 0 ≤ appr b a then (appr b a, 0, if (b.n : Int) < (a.n : Int) - appr b a then b.n else (a.n : Int) - appr b a)
  else (0, 0, 0)

/-- The variables of overlap. -/
structure Boxes (w : World) (h : Nat) (a b : Sl) (r : Int × Int × Int) : Prop where
  c0 : w.cell? ⟨h, 0, none⟩ = some a.val
  c1 : w.cell? ⟨h + 1, 0, none⟩ = some b.val
  c2 : w.cell? ⟨h + 2, 0, none⟩ = some (.int .i64 r.1)
  c3 : w.cell? ⟨h + 3, 0, none⟩ = some (.int .i64 r.2.1)
  c4 : w.cell? ⟨h + 4, 0, none⟩ = some (.int .i64 r.2.2)
  f2 : w.frozen? ⟨h + 2, 0, none⟩ = false
  f3 : w.frozen? ⟨h + 3, 0, none⟩ = false
  f4 : w.frozen? ⟨h + 4, 0, none⟩ = false

theorem Boxes.only {w w1 : World} {h : Nat} {a b : Sl} {r : Int × Int × Int} {F : Nat → Nat → Prop} (hb : Boxes w h a b r) (ho : Only F w w1) (hF : ∀ k i, F k i → k < h) : Boxes w1 h a b r := by
  have hc : ∀ p v, w.cell? ⟨h + p, 0, none⟩ = some v → w1.cell? ⟨h + p, 0, none⟩ = some v := fun p v hv => by
    rw [← hv]
    exact ho.cell ⟨h + p, 0, none⟩ (cell_lt hv) (fun hf => by have := hF _ _ hf; dsimp only at this; omega)
  have hf : ∀ p v, w.cell? ⟨h + p, 0, none⟩ = some v → w.frozen? ⟨h + p, 0, none⟩ = false → w1.frozen? ⟨h + p, 0, none⟩ = false := fun p v hv hf => by
    rw [← hf]
    exact ho.frozen ⟨h + p, 0, none⟩ (cell_lt hv)
  exact ⟨hc 0 _ hb.c0, hc 1 _ hb.c1, hc 2 _ hb.c2, hc 3 _ hb.c3, hc 4 _ hb.c4, hf 2 _ hb.c2 hb.f2, hf 3 _ hb.c3 hb.f3, hf 4 _ hb.c4 hb.f4⟩

/-- Stores into the variables. -/
theorem Boxes.set3 {w : World} {h : Nat} {a b : Sl} {r : Int × Int × Int} (hb : Boxes w h a b r) (x : Int) : Boxes (w.setCell ⟨h + 3, 0, none⟩ (.int .i64 x)) h a b (r.1, x, r.2.2) :=
  ⟨(World.cell?_setCell_far _ _ _ _ (by show h + 3 ≠ h; omega)).trans hb.c0, (World.cell?_setCell_far _ _ _ _ (by show h + 3 ≠ h + 1; omega)).trans hb.c1, (World.cell?_setCell_far _ _ _ _ (by show h + 3 ≠ h + 2; omega)).trans hb.c2,
   World.cell?_setCell_same _ _ _ hb.c3, (World.cell?_setCell_far _ _ _ _ (by show h + 3 ≠ h + 4; omega)).trans hb.c4, by rw [World.frozen?_setCell]; exact hb.f2, by rw [World.frozen?_setCell]; exact hb.f3, by rw [World.frozen?_setCell]; exact hb.f4⟩
theorem Boxes.set2 {w : World} {h : Nat} {a b : Sl} {r : Int × Int × Int} (hb : Boxes w h a b r) (x : Int) : Boxes (w.setCell ⟨h + 2, 0, none⟩ (.int .i64 x)) h a b (x, r.2.1, r.2.2) :=
  ⟨(World.cell?_setCell_far _ _ _ _ (by show h + 2 ≠ h; omega)).trans hb.c0, (World.cell?_setCell_far _ _ _ _ (by show h + 2 ≠ h + 1; omega)).trans hb.c1, World.cell?_setCell_same _ _ _ hb.c2,
   (World.cell?_setCell_far _ _ _ _ (by show h + 2 ≠ h + 3; omega)).trans hb.c3, (World.cell?_setCell_far _ _ _ _ (by show h + 2 ≠ h + 4; omega)).trans hb.c4, by rw [World.frozen?_setCell]; exact hb.f2, by rw [World.frozen?_setCell]; exact hb.f3, by rw [World.frozen?_setCell]; exact hb.f4⟩
theorem Boxes.set4 {w : World} {h : Nat} {a b : Sl} {r : Int × Int × Int} (hb : Boxes w h a b r) (x : Int) : Boxes (w.setCell ⟨h + 4, 0, none⟩ (.int .i64 x)) h a b (r.1, r.2.1, x) :=
  ⟨(World.cell?_setCell_far _ _ _ _ (by show h + 4 ≠ h; omega)).trans hb.c0, (World.cell?_setCell_far _ _ _ _ (by show h + 4 ≠ h + 1; omega)).trans hb.c1, (World.cell?_setCell_far _ _ _ _ (by show h + 4 ≠ h + 2; omega)).trans hb.c2,
   (World.cell?_setCell_far _ _ _ _ (by show h + 4 ≠ h + 3; omega)).trans hb.c3, World.cell?_setCell_same _ _ _ hb.c4, by rw [World.frozen?_setCell]; exact hb.f2, by rw [World.frozen?_setCell]; exact hb.f3, by rw [World.frozen?_setCell]; exact hb.f4⟩

/-- The variables' cells. -/
def VF (h : Nat) (k i : Nat) : Prop := h + 2 ≤ k ∧ k ≤ h + 4

theorem Zero.only {w w1 : World} {s : Sl} {F : Nat → Nat → Prop} (hz : Zero w s) (ho : Only F w w1) (hF : ∀ i, 0 < s.n → ¬ F s.b i) : Zero w1 s := by
  have hc : ∀ j, j < s.n → w1.cell? ⟨s.b, s.o + j, none⟩ = some (.int .u8 0) := fun j hj => by
    rw [← hz.zero j hj]
    exact ho.cell ⟨s.b, s.o + j, none⟩ (cell_lt (hz.zero j hj)) (hF _ (by omega))
  exact ⟨Lies.only hz.lies ho (fun j hj => ⟨0, hc j hj⟩), hc⟩

set_option maxHeartbeats 4000000 in
set_option maxRecDepth 100000 in
theorem overlap1 (h : Nat) (a b : Sl) (w : World) (ha : Zero w a) (hb : Zero w b) (hB : Boxes w h a b (0, 0, 0)) (hla : 0 < a.n → a.b < h) (hlb : 0 < b.n → b.b < h) :
    Calls Try.prog 29 #[.pointer (some ⟨h, 0, none⟩), .pointer (some ⟨h + 1, 0, none⟩), .pointer (some ⟨h + 3, 0, none⟩), .pointer (some ⟨h + 4, 0, none⟩), .pointer (some ⟨h + 2, 0, none⟩)] w fun e w' =>
      e = .returned (.tuple #[]) ∧ Only (VF h) w w' ∧ Boxes w' h a b (ovr a b) := by
  have HB := Aside0.mk hB
  have HZa := Aside0.mk ha
  have HZb := Aside0.mk hb
  have HLa := Lib.hid hla
  have HLb := Lib.hid hlb
  obtain ⟨b1, b2⟩ := appr_bounds a b
  obtain ⟨b3, b4⟩ := appr_bounds b a
  have hsa := ha.lies.small
  have hsb := hb.lies.small
  have hva : a.val = .slice a.A a.n a.c := rfl
  have hvb : b.val = .slice b.A b.n b.c := rfl
  have c0 := hB.c0
  have c1 := hB.c1
  have c3 := hB.c3
  have f3 := hB.f3
  rw [hva] at c0
  rw [hvb] at c1
  have hO : ovr a b = ovr a b := rfl
  generalize hR : ovr a b = R at hO
  unfold ovr at hR
  clear ha hb hB hla hlb hO
  generalize hr1 : appr a b = r1 at b1 b2 hR
  generalize hr2 : appr b a = r2 at b3 b4 hR
  have HR1 := Lib.hid hr1
  have HR2 := Lib.hid hr2
  generalize a.A = aA at hva c0
  generalize a.c = ac at hva c0
  generalize a.n = an at hva c0 hsa b4 hR
  generalize b.A = bA at hvb c1
  generalize b.c = bc at hvb c1
  generalize b.n = bn at hvb c1 hsb b2 hR
  have HVA := Aside0.mk hva
  have HVB := Aside0.mk hvb
  clear hva hvb hr1 hr2
  by_cases h1 : 0 ≤ r1
  · rw [if_pos h1] at hR
    have hlt := b2 h1
    have h1b : decide (0 ≤ r1) = true := decide_eq_true h1
    clear b2
    by_cases hm : (bn : Int) - r1 < an
    · rw [if_pos hm] at hR
      subst hR
      go_enter Try.func29, Try.ntmps29
      go_wp2_with (first | (go_at_call 30; rw [← HVA.out, ← HVB.out]; refine (appears a b _ HZa.out HZb.out).mono ?_; rintro e w2 ⟨rfl, hO2⟩; rw [HR1.out]; have HO2 := Aside0.mk hO2; have HB2 := Aside0.mk (HB.out.only hO2 (fun _ _ hh => hh.elim)); have d0 := HB2.out.c0; have d1 := HB2.out.c1; have d3 := HB2.out.c3; have d4 := HB2.out.c4; have g3 := HB2.out.f3; have g4 := HB2.out.f4; rw [HVA.out] at d0; rw [HVB.out] at d1; clear hO2 c0 c1 c3 f3))
      refine bodyPost_ret (results_none rfl _ _ _) rfl ?_
      have HW := HO2.out
      exact ⟨rfl, ((HW.mono (fun _ _ hh => hh.elim)).setCell ⟨h + 3, 0, none⟩ _ (.inl ⟨by show h + 2 ≤ h + 3; omega, by show h + 3 ≤ h + 4; omega⟩)).setCell ⟨h + 4, 0, none⟩ _ (.inl ⟨by show h + 2 ≤ h + 4; omega, by show h + 4 ≤ h + 4; omega⟩), (HB2.out.set3 r1).set4 _⟩
    · rw [if_neg hm] at hR
      subst hR
      go_enter Try.func29, Try.ntmps29
      go_wp2_with (first | (go_at_call 30; rw [← HVA.out, ← HVB.out]; refine (appears a b _ HZa.out HZb.out).mono ?_; rintro e w2 ⟨rfl, hO2⟩; rw [HR1.out]; have HO2 := Aside0.mk hO2; have HB2 := Aside0.mk (HB.out.only hO2 (fun _ _ hh => hh.elim)); have d0 := HB2.out.c0; have d1 := HB2.out.c1; have d3 := HB2.out.c3; have d4 := HB2.out.c4; have g3 := HB2.out.f3; have g4 := HB2.out.f4; rw [HVA.out] at d0; rw [HVB.out] at d1; clear hO2 c0 c1 c3 f3))
      refine bodyPost_ret (results_none rfl _ _ _) rfl ?_
      have HW := HO2.out
      exact ⟨rfl, ((HW.mono (fun _ _ hh => hh.elim)).setCell ⟨h + 3, 0, none⟩ _ (.inl ⟨by show h + 2 ≤ h + 3; omega, by show h + 3 ≤ h + 4; omega⟩)).setCell ⟨h + 4, 0, none⟩ _ (.inl ⟨by show h + 2 ≤ h + 4; omega, by show h + 4 ≤ h + 4; omega⟩), (HB2.out.set3 r1).set4 _⟩
  · rw [if_neg h1] at hR
    have h1b : decide (0 ≤ r1) = false := decide_eq_false h1
    clear b2
    by_cases h2 : 0 ≤ r2
    · rw [if_pos h2] at hR
      have hlt := b4 h2
      have h2b : decide (0 ≤ r2) = true := decide_eq_true h2
      clear b4
      by_cases hm : (bn : Int) < (an : Int) - r2
      · rw [if_pos hm] at hR
        subst hR
        go_enter Try.func29, Try.ntmps29
        go_wp2_with (first | ((fail_if_success (have := HVA.out; have := HB2)); go_at_call 30; rw [← HVA.out, ← HVB.out]; refine (appears a b _ HZa.out HZb.out).mono ?_; rintro e w2 ⟨rfl, hO2⟩; rw [HR1.out]; have HO2 := Aside0.mk hO2; have HB2 := Aside0.mk (HB.out.only hO2 (fun _ _ hh => hh.elim)); have d0 := HB2.out.c0; have d1 := HB2.out.c1; have d2 := HB2.out.c2; have d3 := HB2.out.c3; have d4 := HB2.out.c4; have g2 := HB2.out.f2; have g3 := HB2.out.f3; have g4 := HB2.out.f4; rw [HVA.out] at d0; rw [HVB.out] at d1; clear hO2 c0 c1 c3 f3) | fail)
        have hOx : Only (VF h) w ((w2.setCell ⟨h + 3, 0, none⟩ (.int .i64 r1)).setCell ⟨h + 3, 0, none⟩ (.int .i64 0)) :=
          ((HO2.out.mono (fun _ _ hh => hh.elim)).setCell ⟨h + 3, 0, none⟩ _ (.inl ⟨by show h + 2 ≤ h + 3; omega, by show h + 3 ≤ h + 4; omega⟩)).setCell ⟨h + 3, 0, none⟩ _ (.inl ⟨by show h + 2 ≤ h + 3; omega, by show h + 3 ≤ h + 4; omega⟩)
        have hBx := (HB2.out.set3 r1).set3 0
        have hZax := HZa.out.only hOx (fun i hn hh => by have := HLa.out hn; have := hh.1; omega)
        have hZbx := HZb.out.only hOx (fun i hn hh => by have := HLb.out hn; have := hh.1; omega)
        generalize ((w2.setCell ⟨h + 3, 0, none⟩ (.int .i64 r1)).setCell ⟨h + 3, 0, none⟩ (.int .i64 0)) = w3 at hOx hBx hZax hZbx
        rw [← HVA.out, ← HVB.out]
        refine (appears b a w3 hZbx hZax).mono ?_
        rintro e w4 ⟨rfl, hO4⟩
        rw [HR2.out]
        have HO4 := Aside0.mk (hOx.trans (hO4.mono (fun _ _ hh => hh.elim)))
        have HB4 := Aside0.mk (hBx.only hO4 (fun _ _ hh => hh.elim))
        clear hOx hBx hZax hZbx hO4 d0 d1 d2 d3 d4 g2 g3 g4 HB2 HO2
        have d0 := HB4.out.c0
        have d1 := HB4.out.c1
        have d2 := HB4.out.c2
        have d3 := HB4.out.c3
        have d4 := HB4.out.c4
        have g2 := HB4.out.f2
        have g3 := HB4.out.f3
        have g4 := HB4.out.f4
        rw [HVA.out] at d0
        rw [HVB.out] at d1
        go_wp2
        refine bodyPost_ret (results_none rfl _ _ _) rfl ?_
        exact ⟨rfl, (HO4.out.setCell ⟨h + 2, 0, none⟩ _ (.inl ⟨by show h + 2 ≤ h + 2; omega, by show h + 2 ≤ h + 4; omega⟩)).setCell ⟨h + 4, 0, none⟩ _ (.inl ⟨by show h + 2 ≤ h + 4; omega, by show h + 4 ≤ h + 4; omega⟩), (HB4.out.set2 _).set4 _⟩
      · rw [if_neg hm] at hR
        subst hR
        go_enter Try.func29, Try.ntmps29
        go_wp2_with (first | ((fail_if_success (have := HVA.out; have := HB2)); go_at_call 30; rw [← HVA.out, ← HVB.out]; refine (appears a b _ HZa.out HZb.out).mono ?_; rintro e w2 ⟨rfl, hO2⟩; rw [HR1.out]; have HO2 := Aside0.mk hO2; have HB2 := Aside0.mk (HB.out.only hO2 (fun _ _ hh => hh.elim)); have d0 := HB2.out.c0; have d1 := HB2.out.c1; have d2 := HB2.out.c2; have d3 := HB2.out.c3; have d4 := HB2.out.c4; have g2 := HB2.out.f2; have g3 := HB2.out.f3; have g4 := HB2.out.f4; rw [HVA.out] at d0; rw [HVB.out] at d1; clear hO2 c0 c1 c3 f3) | fail)
        have hOx : Only (VF h) w ((w2.setCell ⟨h + 3, 0, none⟩ (.int .i64 r1)).setCell ⟨h + 3, 0, none⟩ (.int .i64 0)) :=
          ((HO2.out.mono (fun _ _ hh => hh.elim)).setCell ⟨h + 3, 0, none⟩ _ (.inl ⟨by show h + 2 ≤ h + 3; omega, by show h + 3 ≤ h + 4; omega⟩)).setCell ⟨h + 3, 0, none⟩ _ (.inl ⟨by show h + 2 ≤ h + 3; omega, by show h + 3 ≤ h + 4; omega⟩)
        have hBx := (HB2.out.set3 r1).set3 0
        have hZax := HZa.out.only hOx (fun i hn hh => by have := HLa.out hn; have := hh.1; omega)
        have hZbx := HZb.out.only hOx (fun i hn hh => by have := HLb.out hn; have := hh.1; omega)
        generalize ((w2.setCell ⟨h + 3, 0, none⟩ (.int .i64 r1)).setCell ⟨h + 3, 0, none⟩ (.int .i64 0)) = w3 at hOx hBx hZax hZbx
        rw [← HVA.out, ← HVB.out]
        refine (appears b a w3 hZbx hZax).mono ?_
        rintro e w4 ⟨rfl, hO4⟩
        rw [HR2.out]
        have HO4 := Aside0.mk (hOx.trans (hO4.mono (fun _ _ hh => hh.elim)))
        have HB4 := Aside0.mk (hBx.only hO4 (fun _ _ hh => hh.elim))
        clear hOx hBx hZax hZbx hO4 d0 d1 d2 d3 d4 g2 g3 g4 HB2 HO2
        have d0 := HB4.out.c0
        have d1 := HB4.out.c1
        have d2 := HB4.out.c2
        have d3 := HB4.out.c3
        have d4 := HB4.out.c4
        have g2 := HB4.out.f2
        have g3 := HB4.out.f3
        have g4 := HB4.out.f4
        rw [HVA.out] at d0
        rw [HVB.out] at d1
        go_wp2
        refine bodyPost_ret (results_none rfl _ _ _) rfl ?_
        exact ⟨rfl, (HO4.out.setCell ⟨h + 2, 0, none⟩ _ (.inl ⟨by show h + 2 ≤ h + 2; omega, by show h + 2 ≤ h + 4; omega⟩)).setCell ⟨h + 4, 0, none⟩ _ (.inl ⟨by show h + 2 ≤ h + 4; omega, by show h + 4 ≤ h + 4; omega⟩), (HB4.out.set2 _).set4 _⟩
    · rw [if_neg h2] at hR
      have h2b : decide (0 ≤ r2) = false := decide_eq_false h2
      subst hR
      go_enter Try.func29, Try.ntmps29
      go_wp2_with (first | ((fail_if_success (have := HVA.out; have := HB2)); go_at_call 30; rw [← HVA.out, ← HVB.out]; refine (appears a b _ HZa.out HZb.out).mono ?_; rintro e w2 ⟨rfl, hO2⟩; rw [HR1.out]; have HO2 := Aside0.mk hO2; have HB2 := Aside0.mk (HB.out.only hO2 (fun _ _ hh => hh.elim)); have d0 := HB2.out.c0; have d1 := HB2.out.c1; have d2 := HB2.out.c2; have d3 := HB2.out.c3; have d4 := HB2.out.c4; have g2 := HB2.out.f2; have g3 := HB2.out.f3; have g4 := HB2.out.f4; rw [HVA.out] at d0; rw [HVB.out] at d1; clear hO2 c0 c1 c3 f3) | fail)
      have hOx : Only (VF h) w ((w2.setCell ⟨h + 3, 0, none⟩ (.int .i64 r1)).setCell ⟨h + 3, 0, none⟩ (.int .i64 0)) :=
        ((HO2.out.mono (fun _ _ hh => hh.elim)).setCell ⟨h + 3, 0, none⟩ _ (.inl ⟨by show h + 2 ≤ h + 3; omega, by show h + 3 ≤ h + 4; omega⟩)).setCell ⟨h + 3, 0, none⟩ _ (.inl ⟨by show h + 2 ≤ h + 3; omega, by show h + 3 ≤ h + 4; omega⟩)
      have hBx := (HB2.out.set3 r1).set3 0
      have hZax := HZa.out.only hOx (fun i hn hh => by have := HLa.out hn; have := hh.1; omega)
      have hZbx := HZb.out.only hOx (fun i hn hh => by have := HLb.out hn; have := hh.1; omega)
      generalize ((w2.setCell ⟨h + 3, 0, none⟩ (.int .i64 r1)).setCell ⟨h + 3, 0, none⟩ (.int .i64 0)) = w3 at hOx hBx hZax hZbx
      rw [← HVA.out, ← HVB.out]
      refine (appears b a w3 hZbx hZax).mono ?_
      rintro e w4 ⟨rfl, hO4⟩
      rw [HR2.out]
      have HO4 := Aside0.mk (hOx.trans (hO4.mono (fun _ _ hh => hh.elim)))
      have HB4 := Aside0.mk (hBx.only hO4 (fun _ _ hh => hh.elim))
      clear hOx hBx hZax hZbx hO4 d0 d1 d2 d3 d4 g2 g3 g4 HB2 HO2
      have d0 := HB4.out.c0
      have d1 := HB4.out.c1
      have d2 := HB4.out.c2
      have d3 := HB4.out.c3
      have d4 := HB4.out.c4
      have g2 := HB4.out.f2
      have g3 := HB4.out.f3
      have g4 := HB4.out.f4
      rw [HVA.out] at d0
      rw [HVB.out] at d1
      go_wp2
      go_end0
      exact ⟨rfl, (HO4.out.setCell ⟨h + 2, 0, none⟩ _ (.inl ⟨by show h + 2 ≤ h + 2; omega, by show h + 2 ≤ h + 4; omega⟩)).setCell ⟨h + 2, 0, none⟩ _ (.inl ⟨by show h + 2 ≤ h + 2; omega, by show h + 2 ≤ h + 4; omega⟩), (HB4.out.set2 _).set2 _⟩

end Go.Proofs.Ytghdeoeajbnfkaa.WSl

namespace Go.Proofs.Ytghdeoeajbnfkaa.WSl
open Go.RowKit Go.Proofs.YtghdeoeajbnfkaaW.PrintWords Go.Proofs.YtghdeoeajbnfkaaW.PrintLast Go.Proofs.YtghdeoeajbnfkaaW.PrintMore Go.Proofs.Ytghdeoeajbnfkaa.WMem
set_option linter.unusedSimpArgs false
set_option linter.unusedVariables false

theorem sf_two {a b : Sl} {k i : Nat} (h : SF [a, b] k i) : a.has k i ∨ b.has k i := by
  obtain ⟨s, hs, hh⟩ := h
  simp at hs
  rcases hs with rfl | rfl
  · exact .inl hh
  · exact .inr hh
theorem sf_lt {a b : Sl} {w : World} (ha : Lies w a) (hb : Lies w b) {k i : Nat} (h : SF [a, b] k i) : k < w.heap.size := by
  rcases sf_two h with h | h
  · exact ha.lt' h
  · exact hb.lt' h

/-- The world behind overlap's variables. -/
def ovWorld (w : World) (a b : Sl) : World :=
  (((((w.alloc (.cells #[a.val] 22)).alloc (.cells #[b.val] 22)).alloc (.cells #[.int .i64 0] 3)).alloc (.cells #[.int .i64 0] 3)).alloc (.cells #[.int .i64 0] 3)).alloc (.cells #[a.val, b.val] 22)

theorem ov_below (w : World) (a b : Sl) : Below w.heap.size w (ovWorld w a b) := by
  unfold ovWorld
  repeat (first | exact Below.refl _ _ | apply below_alloc)

theorem ov_size (w : World) (a b : Sl) : (ovWorld w a b).heap.size = w.heap.size + 6 := by
  simp [ovWorld]

theorem ov_heap (w : World) (a b : Sl) : (ovWorld w a b).heap = w.heap ++ #[.cells #[a.val] 22, .cells #[b.val] 22, .cells #[.int .i64 0] 3, .cells #[.int .i64 0] 3, .cells #[.int .i64 0] 3, .cells #[a.val, b.val] 22] := by
  have h : (ovWorld w a b).heap = (((((w.heap.push (.cells #[a.val] 22)).push (.cells #[b.val] 22)).push (.cells #[.int .i64 0] 3)).push (.cells #[.int .i64 0] 3)).push (.cells #[.int .i64 0] 3)).push (.cells #[a.val, b.val] 22) := rfl
  rw [h]
  apply Array.ext'
  simp

theorem setCell_self {w : World} {p : Addr} {v : Value} (h : w.cell? p = some v) (hp : p.spot = none) : w.setCell p v = w := by
  obtain ⟨heap, tape, drawn, os, output⟩ := w
  simp only [World.setCell]
  congr 1
  apply Array.ext_getElem?
  intro i
  rw [Array.getElem?_modify]
  split
  · next hi =>
    subst hi
    simp only [World.cell?] at h
    cases hq : heap[p.block]? with
    | none => rfl
    | some o =>
      rw [hq] at h
      cases o with
      | cells c t f =>
        simp only [hp, Option.isSome_none, Bool.false_eq_true, if_false, Option.map_some, Option.some.injEq] at h ⊢
        congr 1
        apply Array.ext_getElem?
        intro j
        rw [Array.getElem?_setIfInBounds]
        split
        · next hj =>
          subst hj
          have := (Array.getElem?_eq_some_iff.1 h).1
          rw [if_pos this, h]
        · rfl
      | _ => simp at h
  · rfl

theorem ov_boxes (w : World) (a b : Sl) : Boxes (ovWorld w a b) w.heap.size a b (0, 0, 0) := by
  constructor <;> simp [World.cell?, World.frozen?, ov_heap, Array.getElem?_append]

theorem ov_row (w : World) (a b : Sl) : RowAt (ovWorld w a b) (some ⟨w.heap.size + 5, 0, none⟩) (w.heap.size + 5) 0 [a, b] :=
  ⟨fun _ => rfl, fun i s hi => by
    match i with
    | 0 => simp at hi; subst hi; simp [World.cell?, ov_heap, Array.getElem?_append]
    | 1 => simp at hi; subst hi; simp [World.cell?, ov_heap, Array.getElem?_append]
    | i + 2 => simp at hi⟩

/-- tried, on overlap's closure. -/
theorem ov_tried (w : World) (a b : Sl) (ha : Lies w a) (hb : Lies w b) :
    Calls Try.prog 27 #[.slice (some ⟨w.heap.size + 5, 0, none⟩) 2 2, .func (.func 29) #[] #[.pointer (some ⟨w.heap.size, 0, none⟩), .pointer (some ⟨w.heap.size + 1, 0, none⟩), .pointer (some ⟨w.heap.size + 3, 0, none⟩), .pointer (some ⟨w.heap.size + 4, 0, none⟩), .pointer (some ⟨w.heap.size + 2, 0, none⟩)]] (ovWorld w a b) fun e w' =>
      e = .returned (.tuple #[]) ∧ Below w.heap.size w w' ∧ Boxes w' w.heap.size a b (ovr a b) := by
  have hB := ov_below w a b
  have hsz := ov_size w a b
  have hF : ∀ k i, SF [a, b] k i → k < w.heap.size := fun k i h => sf_lt ha hb h
  have := tried (some ⟨w.heap.size + 5, 0, none⟩) (w.heap.size + 5) 0 2 [a, b] #[.pointer (some ⟨w.heap.size, 0, none⟩), .pointer (some ⟨w.heap.size + 1, 0, none⟩), .pointer (some ⟨w.heap.size + 3, 0, none⟩), .pointer (some ⟨w.heap.size + 4, 0, none⟩), .pointer (some ⟨w.heap.size + 2, 0, none⟩)]
    (VF w.heap.size) (fun w' => Boxes w' w.heap.size a b (ovr a b)) (ovWorld w a b) (ov_row w a b) (fun i h => by have := hF _ _ h; omega) (fun i h => by have := h.2; omega)
    (fun s hs => by
      simp at hs
      rcases hs with rfl | rfl
      · exact Lies.below ha hB
      · exact Lies.below hb hB) (by simp) (fun k i h => by have := h.2; omega)
    (fun w1 w2 h1 h2 hz => by
      refine (overlap1 w.heap.size a b w2 (hz a (by simp)) (hz b (by simp)) ?_ (fun hn => ha.lt hn) (fun hn => hb.lt hn)).mono ?_
      · have := (ov_boxes w a b)
        have hb1 : Boxes w1 w.heap.size a b (0, 0, 0) := by
          have := Boxes.only (F := fun _ _ => False) this (Only.of_below h1 (Nat.le_refl _)) (fun _ _ h => h.elim)
          exact this
        exact hb1.only h2 hF
      · rintro e w3 ⟨rfl, g1, g2⟩
        refine ⟨rfl, g1.mono (fun _ _ => .inr), fun s hs => Lies.only (hz s hs).lies g1 (fun j hj => ⟨0, ?_⟩), g2⟩
        rw [← (hz s hs).zero j hj]
        refine g1.cell ⟨s.b, s.o + j, none⟩ (cell_lt ((hz s hs).zero j hj)) (fun hh => ?_)
        have := hF s.b (s.o + j) ⟨s, hs, rfl, by omega, by omega⟩
        have := hh.1
        simp only at this
        omega)
    (fun w3 w4 h1 h2 => h2.only h1 hF)
  refine this.mono ?_
  rintro e w' ⟨rfl, h1, h2⟩
  refine ⟨rfl, hB.trans (h1.below (by rw [hsz]; omega) (fun k i h => by have := h.1; omega)), h2⟩

theorem load3 (w : World) (p : Nat) (x : Int) (c : w.cell? ⟨p, 0, none⟩ = some (.int .i64 x)) : (loadVar 3 ⟨p, 0, none⟩).run Try.prog w = .ok (.int .i64 x) w := by
  simp [go_sem, loadVar, c]

theorem results3 (tmps : Array Value) (w : World) (p q r : Nat) (x y z : Int) (h4 : tmps.getD 4 undef = .pointer (some ⟨p, 0, none⟩)) (h5 : tmps.getD 5 undef = .pointer (some ⟨q, 0, none⟩)) (h6 : tmps.getD 6 undef = .pointer (some ⟨r, 0, none⟩))
    (c4 : w.cell? ⟨p, 0, none⟩ = some (.int .i64 x)) (c5 : w.cell? ⟨q, 0, none⟩ = some (.int .i64 y)) (c6 : w.cell? ⟨r, 0, none⟩ = some (.int .i64 z)) :
    (results Try.f22 tmps).run Try.prog w = .ok (.tuple #[.int .i64 x, .int .i64 y, .int .i64 z]) w := by
  have hres : Try.f22.results = #[.cell 4 3, .cell 5 3, .cell 6 3] := rfl
  have g4 : tmps[4]?.getD undef = .pointer (some ⟨p, 0, none⟩) := by simpa using h4
  have g5 : tmps[5]?.getD undef = .pointer (some ⟨q, 0, none⟩) := by simpa using h5
  have g6 : tmps[6]?.getD undef = .pointer (some ⟨r, 0, none⟩) := by simpa using h6
  simp [results, hres, g4, g5, g6, asAddr, load3 w _ _ c4, load3 w _ _ c5, load3 w _ _ c6]

set_option maxHeartbeats 4000000 in
set_option maxRecDepth 100000 in
theorem overlap (a b : Sl) (w : World) (ha : Lies w a) (hb : Lies w b) :
    Calls Try.prog 22 #[a.val, b.val] w fun e w' => e = .returned (.tuple #[.int .i64 (ovr a b).1, .int .i64 (ovr a b).2.1, .int .i64 (ovr a b).2.2]) ∧ Below w.heap.size w w' := by
  have hmf : ∀ (fn : Fn) (first cap : Array Value) (w : World), (Instr.makeFunc fn first cap).run Try.prog w = .ok (.func fn first cap) w := fun _ _ _ _ => rfl
  have HT := Aside0.mk (ov_tried w a b ha hb)
  have hva : a.val = .slice a.A a.n a.c := rfl
  have hvb : b.val = .slice b.A b.n b.c := rfl
  have HW := Lib.hid (show ovWorld w a b = (((((w.alloc (.cells #[a.val] 22)).alloc (.cells #[b.val] 22)).alloc (.cells #[.int .i64 0] 3)).alloc (.cells #[.int .i64 0] 3)).alloc (.cells #[.int .i64 0] 3)).alloc (.cells #[a.val, b.val] 22) from rfl)
  rw [hva, hvb] at HW
  rw [hva, hvb]
  generalize a.A = aA at hva HW
  generalize a.c = ac at hva HW
  generalize a.n = an at hva HW
  generalize b.A = bA at hvb HW
  generalize b.c = bc at hvb HW
  generalize b.n = bn at hvb HW
  have HVA := Aside0.mk hva
  have HVB := Aside0.mk hvb
  clear hva hvb ha hb
  go_enter Try.func22, Try.ntmps22
  go_wp2_with fail
  rw [← HW.out]
  refine HT.out.mono ?_
  rintro e w' ⟨rfl, hB, hX⟩
  have HB := Aside0.mk hB
  have d2 : w'.cell? ⟨w.heap.size + 1 + 1, 0, none⟩ = some (.int .i64 (ovr a b).1) := hX.c2
  have d3 : w'.cell? ⟨w.heap.size + 1 + 1 + 1, 0, none⟩ = some (.int .i64 (ovr a b).2.1) := hX.c3
  have d4 : w'.cell? ⟨w.heap.size + 1 + 1 + 1 + 1, 0, none⟩ = some (.int .i64 (ovr a b).2.2) := hX.c4
  have g2 : w'.frozen? ⟨w.heap.size + 1 + 1, 0, none⟩ = false := hX.f2
  have g3 : w'.frozen? ⟨w.heap.size + 1 + 1 + 1, 0, none⟩ = false := hX.f3
  have g4 : w'.frozen? ⟨w.heap.size + 1 + 1 + 1 + 1, 0, none⟩ = false := hX.f4
  have e2 := setCell_self d2 rfl
  have e3 := setCell_self d3 rfl
  have e4 := setCell_self d4 rfl
  generalize hr : ovr a b = r at *
  obtain ⟨r1, r2, r3⟩ := r
  dsimp only at *
  have HR := Lib.hid hr
  clear hr
  clear hB hX HT HW
  generalize w.heap.size + 1 + 1 + 1 + 1 = p4 at *
  generalize w.heap.size + 1 + 1 + 1 = p3 at *
  generalize w.heap.size + 1 + 1 = p2 at *
  go_wp2_with fail
  go_region
  have HB5 := Aside0.mk (below_drew HB.out)
  have k2 : w'.drew.cell? ⟨p2, 0, none⟩ = some (.int .i64 r1) := d2
  have k3 : w'.drew.cell? ⟨p3, 0, none⟩ = some (.int .i64 r2) := d3
  have k4 : w'.drew.cell? ⟨p4, 0, none⟩ = some (.int .i64 r3) := d4
  generalize w'.drew = w5 at *
  clear HB d2 d3 d4 g2 g3 g4 e2 e3 e4
  go_wp2
  refine bodyPost_ret (results3 _ w5 p2 p3 p4 r1 r2 r3 rfl rfl rfl k2 k3 k4) rfl ?_
  rw [HR.out]
  exact ⟨rfl, HB5.out⟩

end Go.Proofs.Ytghdeoeajbnfkaa.WSl
