/- Where the first octet of one slice appears in another. -/
import Derived.Test.YtghdeoeajbnfkaaWSl
namespace Go.Proofs.Ytghdeoeajbnfkaa.WSl
open Go.RowKit Go.Proofs.YtghdeoeajbnfkaaW.PrintWords Go.Proofs.YtghdeoeajbnfkaaW.PrintLast Go.Proofs.YtghdeoeajbnfkaaW.PrintMore Go.Proofs.Ytghdeoeajbnfkaa.WMem
set_option linter.unusedSimpArgs false
set_option linter.unusedVariables false

theorem idx_none (xs : List Int) (x : Int) : ∀ (n k : Nat), (∀ j, k ≤ j → j < k + n → x ≠ xs.getD j 0) → idx xs x n k = -1
  | 0, _, _ => rfl
  | n + 1, k, h => by
    unfold idx
    rw [if_neg (h k (Nat.le_refl _) (by omega))]
    exact idx_none xs x n (k + 1) (fun j h1 h2 => h j (by omega) (by omega))

theorem idx_some (xs : List Int) (x : Int) (m : Nat) : ∀ (n k : Nat), k ≤ m → m < k + n → x = xs.getD m 0 → (∀ j, k ≤ j → j < m → x ≠ xs.getD j 0) → idx xs x n k = m
  | 0, _, h1, h2, _, _ => by omega
  | n + 1, k, h1, h2, h3, h4 => by
    unfold idx
    by_cases hk : k = m
    · subst hk
      rw [if_pos h3]
    · rw [if_neg (h4 k (Nat.le_refl _) (by omega))]
      exact idx_some xs x m n (k + 1) (by omega) (by omega) h3 (fun j g1 g2 => h4 j (by omega) g2)

/-- A slice of zeros. -/
structure Zero (w : World) (s : Sl) : Prop where
  lies : Lies w s
  zero : ∀ j, j < s.n → w.cell? ⟨s.b, s.o + j, none⟩ = some (.int .u8 0)

/-- Where a's first octet lies in b. -/
def appr (a b : Sl) : Int := if 0 < a.n ∧ a.b = b.b ∧ b.o ≤ a.o ∧ a.o < b.o + b.n then ((a.o - b.o : Nat) : Int) else -1

theorem at_ne {b o b' o' : Nat} (h : ¬ (b = b' ∧ o = o')) : (⟨b, o, none⟩ : Addr) ≠ ⟨b', o', none⟩ := fun e => h (by injection e with e1 e2; exact ⟨e1, e2⟩)

/-- A world in which a's first octet has been written. -/
theorem put_cell {w : World} {a b : Sl} (ha : Zero w a) (hn : 0 < a.n) (hb : Zero w b) (x : Int) (j : Nat) (hj : j < b.n) :
    (w.setCell ⟨a.b, a.o, none⟩ (.int .u8 x)).cell? ⟨b.b, b.o + j, none⟩ = some (.int .u8 (if a.b = b.b ∧ a.o = b.o + j then x else 0)) := by
  by_cases h : a.b = b.b ∧ a.o = b.o + j
  · rw [if_pos h, h.1, h.2]
    exact World.cell?_setCell_same _ _ _ (hb.zero j hj)
  · rw [if_neg h, World.cell?_setCell_other (h := at_ne h)]
    exact hb.zero j hj

theorem put_lies {w : World} {a b : Sl} (ha : Zero w a) (hn : 0 < a.n) (hb : Zero w b) (x : Int) : Lies (w.setCell ⟨a.b, a.o, none⟩ (.int .u8 x)) b :=
  ⟨hb.lies.nil, hb.lies.le, hb.lies.small, fun j hj => ⟨_, put_cell ha hn hb x j hj, by
    rw [World.frozen?_setCell]
    exact (hb.lies.cell j hj).choose_spec.2⟩⟩

theorem put_idx {w : World} {a b : Sl} (ha : Zero w a) (hn : 0 < a.n) (hb : Zero w b) : idx (octsOf (w.setCell ⟨a.b, a.o, none⟩ (.int .u8 1)) b) 1 b.n 0 = appr a b := by
  have hget : ∀ j, j < b.n → (octsOf (w.setCell ⟨a.b, a.o, none⟩ (.int .u8 1)) b).getD j 0 = if a.b = b.b ∧ a.o = b.o + j then 1 else 0 := fun j hj => by
    have h1 := (put_lies ha hn hb 1).oct j hj
    rw [put_cell ha hn hb 1 j hj] at h1
    injection h1 with h1
    injection h1 with _ h1
    exact h1.symm
  unfold appr
  by_cases h : 0 < a.n ∧ a.b = b.b ∧ b.o ≤ a.o ∧ a.o < b.o + b.n
  · rw [if_pos h]
    obtain ⟨_, h1, h2, h3⟩ := h
    refine idx_some _ _ (a.o - b.o) _ _ (Nat.zero_le _) (by omega) ?_ (fun j _ hj => ?_)
    · rw [hget _ (by omega), if_pos ⟨h1, by omega⟩]
    · rw [hget _ (by omega), if_neg (by omega)]
      decide
  · rw [if_neg h]
    refine idx_none _ _ _ _ (fun j _ hj => ?_)
    rw [hget j (by omega), if_neg (by omega)]
    decide

set_option maxRecDepth 100000 in
theorem appears (a b : Sl) (w : World) (ha : Zero w a) (hb : Zero w b) :
    Calls Try.prog 30 #[a.val, b.val] w fun e w' => e = .returned (.int .i64 (appr a b)) ∧ Only (fun _ _ => False) w w' := by
  by_cases hn : 0 < a.n
  · have hA : a.val = .slice (some ⟨a.b, a.o, none⟩) a.n a.c := by
      unfold Sl.val Sl.A
      split
      · next hq => have := (ha.lies.nil hq).1; omega
      · rfl
    have hI := Lib.hid (put_idx ha hn hb)
    have hL := Aside0.mk (put_lies ha hn hb 1)
    have h0 := ha.zero 0 hn
    have f0 := (ha.lies.cell 0 hn).choose_spec.2
    simp only [Nat.add_zero] at h0 f0
    have hO := Aside0.mk (show Only (fun _ _ => False) w ((w.setCell ⟨a.b, a.o, none⟩ (.int .u8 1)).setCell ⟨a.b, a.o, none⟩ (.int .u8 0)) from
      (((Only.refl w).setCell ⟨a.b, a.o, none⟩ (.int .u8 1) (.inl ⟨rfl, rfl⟩)).setCell ⟨a.b, a.o, none⟩ (.int .u8 0) (.inl ⟨rfl, rfl⟩) : Only (fun k i => k = a.b ∧ i = a.o) w _).mono (G := fun k i => (k = a.b ∧ i = a.o) ∨ False) (fun _ _ h => .inl h) |>.restored (fun k i h _ _ => by
        obtain ⟨rfl, rfl⟩ := h
        rw [h0]
        exact World.cell?_setCell_same _ _ _ (World.cell?_setCell_same _ _ _ h0)))
    have hlt := hn
    rw [hA]
    generalize hbv : b.val = bv
    have HB := Aside0.mk hbv
    clear ha hb hbv
    generalize hR : appr a b = R at hI
    clear hR
    obtain ⟨ab, ao, an, ac, anul⟩ := a
    dsimp only at *
    clear hA
    have hz : decide (an = 0) = false := by simp; omega
    go_enter Try.func30, Try.ntmps30
    go_wp2_with (first | (go_at_call 33; rw [← HB.out]; refine (index b 1 _ hL.out).mono ?_; rintro e w1 ⟨rfl, rfl⟩))
    go_ret
    exact ⟨by rw [hI.out]; rfl, hO.out⟩
  · have h0 : a.n = 0 := by omega
    have hR : appr a b = -1 := by unfold appr; rw [if_neg (by omega)]
    have hv : a.val = .slice a.A 0 a.c := by unfold Sl.val; rw [h0]
    rw [hR, hv]
    generalize a.A = A
    generalize a.c = c
    generalize b.val = bv
    clear hv hR h0 hn ha hb
    go_enter Try.func30, Try.ntmps30
    go_wp2
    go_ret
    exact ⟨rfl, Only.refl _⟩

end Go.Proofs.Ytghdeoeajbnfkaa.WSl
