/- The closure that looks where two slices share octets. -/
import Derived.Test.YtghdeoeajbnfkaaWTried
namespace Go.Proofs.Ytghdeoeajbnfkaa.WSl
open Go.RowKit Go.Proofs.YtghdeoeajbnfkaaW.PrintWords Go.Proofs.YtghdeoeajbnfkaaW.PrintLast Go.Proofs.YtghdeoeajbnfkaaW.PrintMore Go.Proofs.Ytghdeoeajbnfkaa.WMem
attribute [local go_sem] max2_int min2_int max_two min_two
set_option linter.unusedSimpArgs false
set_option linter.unusedVariables false

theorem appr_bounds (a b : Sl) : -1 ≤ appr a b ∧ (0 ≤ appr a b → appr a b < b.n) := by
  unfold appr
  split
  · next h => exact ⟨by omega, fun _ => by omega⟩
  · exact ⟨by omega, fun h => by omega⟩

/-- What two slices share. -/
def ovr (a b : Sl) : Int × Int × Int :=
  if 0 ≤ appr a b then (0, appr a b, if (b.n : Int) - appr a b < a.n then (b.n : Int) - appr a b else a.n)
  else if 0 ≤ appr b a then (appr b a, 0, if (b.n : Int) < (a.n : Int) - appr b a then b.n else (a.n : Int) - appr b a)
  else (0, 0, 0)

/-- The variables of overlap. -/
structure Boxes (w : World) (h : Nat) (a b : Sl) (r : Int × Int × Int) : Prop where
  c0 : w.cell? ⟨h, 0, none⟩ = some a.val
  c1 : w.cell? ⟨h + 1, 0, none⟩ = some b.val
  c2 : w.cell? ⟨h + 2, 0, none⟩ = some (.int .i64 r.1)
  c3 : w.cell? ⟨h + 3, 0, none⟩ = some (.int .i64 r.2.1)
  c4 : w.cell? ⟨h + 4, 0, none⟩ = some (.int .i64 r.2.2)
  f2 : w.frozen? ⟨h + 2, 0, none⟩ = false
  f3 : w.frozen? ⟨h + 3, 0, none⟩ = false
  f4 : w.frozen? ⟨h + 4, 0, none⟩ = false

theorem Boxes.only {w w1 : World} {h : Nat} {a b : Sl} {r : Int × Int × Int} {F : Nat → Nat → Prop} (hb : Boxes w h a b r) (ho : Only F w w1) (hF : ∀ k i, F k i → k < h) : Boxes w1 h a b r := by
  have hc : ∀ p v, w.cell? ⟨h + p, 0, none⟩ = some v → w1.cell? ⟨h + p, 0, none⟩ = some v := fun p v hv => by
    rw [← hv]
    exact ho.cell ⟨h + p, 0, none⟩ (cell_lt hv) (fun hf => by have := hF _ _ hf; dsimp only at this; omega)
  have hf : ∀ p v, w.cell? ⟨h + p, 0, none⟩ = some v → w.frozen? ⟨h + p, 0, none⟩ = false → w1.frozen? ⟨h + p, 0, none⟩ = false := fun p v hv hf => by
    rw [← hf]
    exact ho.frozen ⟨h + p, 0, none⟩ (cell_lt hv)
  exact ⟨hc 0 _ hb.c0, hc 1 _ hb.c1, hc 2 _ hb.c2, hc 3 _ hb.c3, hc 4 _ hb.c4, hf 2 _ hb.c2 hb.f2, hf 3 _ hb.c3 hb.f3, hf 4 _ hb.c4 hb.f4⟩

/-- Stores into the variables. -/
theorem Boxes.set3 {w : World} {h : Nat} {a b : Sl} {r : Int × Int × Int} (hb : Boxes w h a b r) (x : Int) : Boxes (w.setCell ⟨h + 3, 0, none⟩ (.int .i64 x)) h a b (r.1, x, r.2.2) :=
  ⟨(World.cell?_setCell_far _ _ _ _ (by show h + 3 ≠ h; omega)).trans hb.c0, (World.cell?_setCell_far _ _ _ _ (by show h + 3 ≠ h + 1; omega)).trans hb.c1, (World.cell?_setCell_far _ _ _ _ (by show h + 3 ≠ h + 2; omega)).trans hb.c2,
   World.cell?_setCell_same _ _ _ hb.c3, (World.cell?_setCell_far _ _ _ _ (by show h + 3 ≠ h + 4; omega)).trans hb.c4, by rw [World.frozen?_setCell]; exact hb.f2, by rw [World.frozen?_setCell]; exact hb.f3, by rw [World.frozen?_setCell]; exact hb.f4⟩
theorem Boxes.set2 {w : World} {h : Nat} {a b : Sl} {r : Int × Int × Int} (hb : Boxes w h a b r) (x : Int) : Boxes (w.setCell ⟨h + 2, 0, none⟩ (.int .i64 x)) h a b (x, r.2.1, r.2.2) :=
  ⟨(World.cell?_setCell_far _ _ _ _ (by show h + 2 ≠ h; omega)).trans hb.c0, (World.cell?_setCell_far _ _ _ _ (by show h + 2 ≠ h + 1; omega)).trans hb.c1, World.cell?_setCell_same _ _ _ hb.c2,
   (World.cell?_setCell_far _ _ _ _ (by show h + 2 ≠ h + 3; omega)).trans hb.c3, (World.cell?_setCell_far _ _ _ _ (by show h + 2 ≠ h + 4; omega)).trans hb.c4, by rw [World.frozen?_setCell]; exact hb.f2, by rw [World.frozen?_setCell]; exact hb.f3, by rw [World.frozen?_setCell]; exact hb.f4⟩
theorem Boxes.set4 {w : World} {h : Nat} {a b : Sl} {r : Int × Int × Int} (hb : Boxes w h a b r) (x : Int) : Boxes (w.setCell ⟨h + 4, 0, none⟩ (.int .i64 x)) h a b (r.1, r.2.1, x) :=
  ⟨(World.cell?_setCell_far _ _ _ _ (by show h + 4 ≠ h; omega)).trans hb.c0, (World.cell?_setCell_far _ _ _ _ (by show h + 4 ≠ h + 1; omega)).trans hb.c1, (World.cell?_setCell_far _ _ _ _ (by show h + 4 ≠ h + 2; omega)).trans hb.c2,
   (World.cell?_setCell_far _ _ _ _ (by show h + 4 ≠ h + 3; omega)).trans hb.c3, World.cell?_setCell_same _ _ _ hb.c4, by rw [World.frozen?_setCell]; exact hb.f2, by rw [World.frozen?_setCell]; exact hb.f3, by rw [World.frozen?_setCell]; exact hb.f4⟩

/-- The variables' cells. -/
def VF (h : Nat) (k i : Nat) : Prop := h + 2 ≤ k ∧ k ≤ h + 4

theorem Zero.only {w w1 : World} {s : Sl} {F : Nat → Nat → Prop} (hz : Zero w s) (ho : Only F w w1) (hF : ∀ i, 0 < s.n → ¬ F s.b i) : Zero w1 s := by
  have hc : ∀ j, j < s.n → w1.cell? ⟨s.b, s.o + j, none⟩ = some (.int .u8 0) := fun j hj => by
    rw [← hz.zero j hj]
    exact ho.cell ⟨s.b, s.o + j, none⟩ (cell_lt (hz.zero j hj)) (hF _ (by omega))
  exact ⟨Lies.only hz.lies ho (fun j hj => ⟨0, hc j hj⟩), hc⟩

set_option maxHeartbeats 4000000 in
set_option maxRecDepth 100000 in
theorem overlap1 (h : Nat) (a b : Sl) (w : World) (ha : Zero w a) (hb : Zero w b) (hB : Boxes w h a b (0, 0, 0)) (hla : 0 < a.n → a.b < h) (hlb : 0 < b.n → b.b < h) :
    Calls Try.prog 29 #[.pointer (some ⟨h, 0, none⟩), .pointer (some ⟨h + 1, 0, none⟩), .pointer (some ⟨h + 3, 0, none⟩), .pointer (some ⟨h + 4, 0, none⟩), .pointer (some ⟨h + 2, 0, none⟩)] w fun e w' =>
      e = .returned (.tuple #[]) ∧ Only (VF h) w w' ∧ Boxes w' h a b (ovr a b) := by
  have HB := Aside0.mk hB
  have HZa := Aside0.mk ha
  have HZb := Aside0.mk hb
  have HLa := Lib.hid hla
  have HLb := Lib.hid hlb
  obtain ⟨b1, b2⟩ := appr_bounds a b
  obtain ⟨b3, b4⟩ := appr_bounds b a
  have hsa := ha.lies.small
  have hsb := hb.lies.small
  have hva : a.val = .slice a.A a.n a.c := rfl
  have hvb : b.val = .slice b.A b.n b.c := rfl
  have c0 := hB.c0
  have c1 := hB.c1
  have c3 := hB.c3
  have f3 := hB.f3
  rw [hva] at c0
  rw [hvb] at c1
  have hO : ovr a b = ovr a b := rfl
  generalize hR : ovr a b = R at hO
  unfold ovr at hR
  clear ha hb hB hla hlb hO
  generalize hr1 : appr a b = r1 at b1 b2 hR
  generalize hr2 : appr b a = r2 at b3 b4 hR
  have HR1 := Lib.hid hr1
  have HR2 := Lib.hid hr2
  generalize a.A = aA at hva c0
  generalize a.c = ac at hva c0
  generalize a.n = an at hva c0 hsa b4 hR
  generalize b.A = bA at hvb c1
  generalize b.c = bc at hvb c1
  generalize b.n = bn at hvb c1 hsb b2 hR
  have HVA := Aside0.mk hva
  have HVB := Aside0.mk hvb
  clear hva hvb hr1 hr2
  by_cases h1 : 0 ≤ r1
  · rw [if_pos h1] at hR
    have hlt := b2 h1
    have h1b : decide (0 ≤ r1) = true := decide_eq_true h1
    clear b2
    by_cases hm : (bn : Int) - r1 < an
    · rw [if_pos hm] at hR
      subst hR
      go_enter Try.func29, Try.ntmps29
      go_wp2_with (first | (go_at_call 30; rw [← HVA.out, ← HVB.out]; refine (appears a b _ HZa.out HZb.out).mono ?_; rintro e w2 ⟨rfl, hO2⟩; rw [HR1.out]; have HO2 := Aside0.mk hO2; have HB2 := Aside0.mk (HB.out.only hO2 (fun _ _ hh => hh.elim)); have d0 := HB2.out.c0; have d1 := HB2.out.c1; have d3 := HB2.out.c3; have d4 := HB2.out.c4; have g3 := HB2.out.f3; have g4 := HB2.out.f4; rw [HVA.out] at d0; rw [HVB.out] at d1; clear hO2 c0 c1 c3 f3))
      refine bodyPost_ret (results_none rfl _ _ _) rfl ?_
      have HW := HO2.out
      exact ⟨rfl, ((HW.mono (fun _ _ hh => hh.elim)).setCell ⟨h + 3, 0, none⟩ _ (.inl ⟨by show h + 2 ≤ h + 3; omega, by show h + 3 ≤ h + 4; omega⟩)).setCell ⟨h + 4, 0, none⟩ _ (.inl ⟨by show h + 2 ≤ h + 4; omega, by show h + 4 ≤ h + 4; omega⟩), (HB2.out.set3 r1).set4 _⟩
    · rw [if_neg hm] at hR
      subst hR
      go_enter Try.func29, Try.ntmps29
      go_wp2_with (first | (go_at_call 30; rw [← HVA.out, ← HVB.out]; refine (appears a b _ HZa.out HZb.out).mono ?_; rintro e w2 ⟨rfl, hO2⟩; rw [HR1.out]; have HO2 := Aside0.mk hO2; have HB2 := Aside0.mk (HB.out.only hO2 (fun _ _ hh => hh.elim)); have d0 := HB2.out.c0; have d1 := HB2.out.c1; have d3 := HB2.out.c3; have d4 := HB2.out.c4; have g3 := HB2.out.f3; have g4 := HB2.out.f4; rw [HVA.out] at d0; rw [HVB.out] at d1; clear hO2 c0 c1 c3 f3))
      refine bodyPost_ret (results_none rfl _ _ _) rfl ?_
      have HW := HO2.out
      exact ⟨rfl, ((HW.mono (fun _ _ hh => hh.elim)).setCell ⟨h + 3, 0, none⟩ _ (.inl ⟨by show h + 2 ≤ h + 3; omega, by show h + 3 ≤ h + 4; omega⟩)).setCell ⟨h + 4, 0, none⟩ _ (.inl ⟨by show h + 2 ≤ h + 4; omega, by show h + 4 ≤ h + 4; omega⟩), (HB2.out.set3 r1).set4 _⟩
  · rw [if_neg h1] at hR
    have h1b : decide (0 ≤ r1) = false := decide_eq_false h1
    clear b2
    by_cases h2 : 0 ≤ r2
    · rw [if_pos h2] at hR
      have hlt := b4 h2
      have h2b : decide (0 ≤ r2) = true := decide_eq_true h2
      clear b4
      by_cases hm : (bn : Int) < (an : Int) - r2
      · rw [if_pos hm] at hR
        subst hR
        go_enter Try.func29, Try.ntmps29
        go_wp2_with (first | ((fail_if_success (have := HVA.out; have := HB2)); go_at_call 30; rw [← HVA.out, ← HVB.out]; refine (appears a b _ HZa.out HZb.out).mono ?_; rintro e w2 ⟨rfl, hO2⟩; rw [HR1.out]; have HO2 := Aside0.mk hO2; have HB2 := Aside0.mk (HB.out.only hO2 (fun _ _ hh => hh.elim)); have d0 := HB2.out.c0; have d1 := HB2.out.c1; have d2 := HB2.out.c2; have d3 := HB2.out.c3; have d4 := HB2.out.c4; have g2 := HB2.out.f2; have g3 := HB2.out.f3; have g4 := HB2.out.f4; rw [HVA.out] at d0; rw [HVB.out] at d1; clear hO2 c0 c1 c3 f3) | fail)
        have hOx : Only (VF h) w ((w2.setCell ⟨h + 3, 0, none⟩ (.int .i64 r1)).setCell ⟨h + 3, 0, none⟩ (.int .i64 0)) :=
          ((HO2.out.mono (fun _ _ hh => hh.elim)).setCell ⟨h + 3, 0, none⟩ _ (.inl ⟨by show h + 2 ≤ h + 3; omega, by show h + 3 ≤ h + 4; omega⟩)).setCell ⟨h + 3, 0, none⟩ _ (.inl ⟨by show h + 2 ≤ h + 3; omega, by show h + 3 ≤ h + 4; omega⟩)
        have hBx := (HB2.out.set3 r1).set3 0
        have hZax := HZa.out.only hOx (fun i hn hh => by have := HLa.out hn; have := hh.1; omega)
        have hZbx := HZb.out.only hOx (fun i hn hh => by have := HLb.out hn; have := hh.1; omega)
        generalize ((w2.setCell ⟨h + 3, 0, none⟩ (.int .i64 r1)).setCell ⟨h + 3, 0, none⟩ (.int .i64 0)) = w3 at hOx hBx hZax hZbx
        rw [← HVA.out, ← HVB.out]
        refine (appears b a w3 hZbx hZax).mono ?_
        rintro e w4 ⟨rfl, hO4⟩
        rw [HR2.out]
        have HO4 := Aside0.mk (hOx.trans (hO4.mono (fun _ _ hh => hh.elim)))
        have HB4 := Aside0.mk (hBx.only hO4 (fun _ _ hh => hh.elim))
        clear hOx hBx hZax hZbx hO4 d0 d1 d2 d3 d4 g2 g3 g4 HB2 HO2
        have d0 := HB4.out.c0
        have d1 := HB4.out.c1
        have d2 := HB4.out.c2
        have d3 := HB4.out.c3
        have d4 := HB4.out.c4
        have g2 := HB4.out.f2
        have g3 := HB4.out.f3
        have g4 := HB4.out.f4
        rw [HVA.out] at d0
        rw [HVB.out] at d1
        go_wp2
        refine bodyPost_ret (results_none rfl _ _ _) rfl ?_
        exact ⟨rfl, (HO4.out.setCell ⟨h + 2, 0, none⟩ _ (.inl ⟨by show h + 2 ≤ h + 2; omega, by show h + 2 ≤ h + 4; omega⟩)).setCell ⟨h + 4, 0, none⟩ _ (.inl ⟨by show h + 2 ≤ h + 4; omega, by show h + 4 ≤ h + 4; omega⟩), (HB4.out.set2 _).set4 _⟩
      · rw [if_neg hm] at hR
        subst hR
        go_enter Try.func29, Try.ntmps29
        go_wp2_with (first | ((fail_if_success (have := HVA.out; have := HB2)); go_at_call 30; rw [← HVA.out, ← HVB.out]; refine (appears a b _ HZa.out HZb.out).mono ?_; rintro e w2 ⟨rfl, hO2⟩; rw [HR1.out]; have HO2 := Aside0.mk hO2; have HB2 := Aside0.mk (HB.out.only hO2 (fun _ _ hh => hh.elim)); have d0 := HB2.out.c0; have d1 := HB2.out.c1; have d2 := HB2.out.c2; have d3 := HB2.out.c3; have d4 := HB2.out.c4; have g2 := HB2.out.f2; have g3 := HB2.out.f3; have g4 := HB2.out.f4; rw [HVA.out] at d0; rw [HVB.out] at d1; clear hO2 c0 c1 c3 f3) | fail)
        have hOx : Only (VF h) w ((w2.setCell ⟨h + 3, 0, none⟩ (.int .i64 r1)).setCell ⟨h + 3, 0, none⟩ (.int .i64 0)) :=
          ((HO2.out.mono (fun _ _ hh => hh.elim)).setCell ⟨h + 3, 0, none⟩ _ (.inl ⟨by show h + 2 ≤ h + 3; omega, by show h + 3 ≤ h + 4; omega⟩)).setCell ⟨h + 3, 0, none⟩ _ (.inl ⟨by show h + 2 ≤ h + 3; omega, by show h + 3 ≤ h + 4; omega⟩)
        have hBx := (HB2.out.set3 r1).set3 0
        have hZax := HZa.out.only hOx (fun i hn hh => by have := HLa.out hn; have := hh.1; omega)
        have hZbx := HZb.out.only hOx (fun i hn hh => by have := HLb.out hn; have := hh.1; omega)
        generalize ((w2.setCell ⟨h + 3, 0, none⟩ (.int .i64 r1)).setCell ⟨h + 3, 0, none⟩ (.int .i64 0)) = w3 at hOx hBx hZax hZbx
        rw [← HVA.out, ← HVB.out]
        refine (appears b a w3 hZbx hZax).mono ?_
        rintro e w4 ⟨rfl, hO4⟩
        rw [HR2.out]
        have HO4 := Aside0.mk (hOx.trans (hO4.mono (fun _ _ hh => hh.elim)))
        have HB4 := Aside0.mk (hBx.only hO4 (fun _ _ hh => hh.elim))
        clear hOx hBx hZax hZbx hO4 d0 d1 d2 d3 d4 g2 g3 g4 HB2 HO2
        have d0 := HB4.out.c0
        have d1 := HB4.out.c1
        have d2 := HB4.out.c2
        have d3 := HB4.out.c3
        have d4 := HB4.out.c4
        have g2 := HB4.out.f2
        have g3 := HB4.out.f3
        have g4 := HB4.out.f4
        rw [HVA.out] at d0
        rw [HVB.out] at d1
        go_wp2
        refine bodyPost_ret (results_none rfl _ _ _) rfl ?_
        exact ⟨rfl, (HO4.out.setCell ⟨h + 2, 0, none⟩ _ (.inl ⟨by show h + 2 ≤ h + 2; omega, by show h + 2 ≤ h + 4; omega⟩)).setCell ⟨h + 4, 0, none⟩ _ (.inl ⟨by show h + 2 ≤ h + 4; omega, by show h + 4 ≤ h + 4; omega⟩), (HB4.out.set2 _).set4 _⟩
    · rw [if_neg h2] at hR
      have h2b : decide (0 ≤ r2) = false := decide_eq_false h2
      subst hR
      go_enter Try.func29, Try.ntmps29
      go_wp2_with (first | ((fail_if_success (have := HVA.out; have := HB2)); go_at_call 30; rw [← HVA.out, ← HVB.out]; refine (appears a b _ HZa.out HZb.out).mono ?_; rintro e w2 ⟨rfl, hO2⟩; rw [HR1.out]; have HO2 := Aside0.mk hO2; have HB2 := Aside0.mk (HB.out.only hO2 (fun _ _ hh => hh.elim)); have d0 := HB2.out.c0; have d1 := HB2.out.c1; have d2 := HB2.out.c2; have d3 := HB2.out.c3; have d4 := HB2.out.c4; have g2 := HB2.out.f2; have g3 := HB2.out.f3; have g4 := HB2.out.f4; rw [HVA.out] at d0; rw [HVB.out] at d1; clear hO2 c0 c1 c3 f3) | fail)
      have hOx : Only (VF h) w ((w2.setCell ⟨h + 3, 0, none⟩ (.int .i64 r1)).setCell ⟨h + 3, 0, none⟩ (.int .i64 0)) :=
        ((HO2.out.mono (fun _ _ hh => hh.elim)).setCell ⟨h + 3, 0, none⟩ _ (.inl ⟨by show h + 2 ≤ h + 3; omega, by show h + 3 ≤ h + 4; omega⟩)).setCell ⟨h + 3, 0, none⟩ _ (.inl ⟨by show h + 2 ≤ h + 3; omega, by show h + 3 ≤ h + 4; omega⟩)
      have hBx := (HB2.out.set3 r1).set3 0
      have hZax := HZa.out.only hOx (fun i hn hh => by have := HLa.out hn; have := hh.1; omega)
      have hZbx := HZb.out.only hOx (fun i hn hh => by have := HLb.out hn; have := hh.1; omega)
      generalize ((w2.setCell ⟨h + 3, 0, none⟩ (.int .i64 r1)).setCell ⟨h + 3, 0, none⟩ (.int .i64 0)) = w3 at hOx hBx hZax hZbx
      rw [← HVA.out, ← HVB.out]
      refine (appears b a w3 hZbx hZax).mono ?_
      rintro e w4 ⟨rfl, hO4⟩
      rw [HR2.out]
      have HO4 := Aside0.mk (hOx.trans (hO4.mono (fun _ _ hh => hh.elim)))
      have HB4 := Aside0.mk (hBx.only hO4 (fun _ _ hh => hh.elim))
      clear hOx hBx hZax hZbx hO4 d0 d1 d2 d3 d4 g2 g3 g4 HB2 HO2
      have d0 := HB4.out.c0
      have d1 := HB4.out.c1
      have d2 := HB4.out.c2
      have d3 := HB4.out.c3
      have d4 := HB4.out.c4
      have g2 := HB4.out.f2
      have g3 := HB4.out.f3
      have g4 := HB4.out.f4
      rw [HVA.out] at d0
      rw [HVB.out] at d1
      go_wp2
      go_end0
      exact ⟨rfl, (HO4.out.setCell ⟨h + 2, 0, none⟩ _ (.inl ⟨by show h + 2 ≤ h + 2; omega, by show h + 2 ≤ h + 4; omega⟩)).setCell ⟨h + 2, 0, none⟩ _ (.inl ⟨by show h + 2 ≤ h + 2; omega, by show h + 2 ≤ h + 4; omega⟩), (HB4.out.set2 _).set2 _⟩

end Go.Proofs.Ytghdeoeajbnfkaa.WSl
