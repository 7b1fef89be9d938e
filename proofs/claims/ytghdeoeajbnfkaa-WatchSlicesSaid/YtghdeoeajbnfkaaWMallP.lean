/- Which pairs Meets finds; the leads of them. -/
import Derived.Test.YtghdeoeajbnfkaaWGroups
namespace Go.Proofs.Ytghdeoeajbnfkaa.WSl
open Go.RowKit Go.Proofs.Ytghdeoeajbnfkaa.WMem
set_option linter.unusedSimpArgs false
set_option linter.unusedVariables false

/-- The label at a position. -/
def lab (xs : List Int) (k : Int) : Int := xs.getD k.toNat 0
theorem lab_set (xs : List Int) (a k : Int) (v : Int) (ha : 0 ≤ a) (han : a < xs.length) (hk : 0 ≤ k) (hkn : k < xs.length) : lab (xs.set a.toNat v) k = if k = a then v else lab xs k := by
  unfold lab
  rw [List.getD_eq_getElem?_getD, List.getElem?_set]
  by_cases h : k = a
  · subst h
    rw [if_pos rfl, if_pos (by omega), if_pos rfl]
    rfl
  · rw [if_neg (by omega), if_neg h]
    rfl

/-- How many positions below n have no label. -/
def negs (xs : List Int) : Nat → Nat
  | 0 => 0
  | n + 1 => negs xs n + if lab xs n < 0 then 1 else 0
theorem negs_mono {xs ys : List Int} : ∀ n, (∀ j : Nat, j < n → lab ys j < 0 → lab xs j < 0) → negs ys n ≤ negs xs n
  | 0, _ => Nat.le_refl _
  | n + 1, h => by
    have h1 := negs_mono n (fun j hj => h j (by omega))
    have h2 := h n (by omega)
    unfold negs
    split
    · next h3 => rw [if_pos (h2 h3)]; omega
    · split <;> omega
theorem negs_lt {xs ys : List Int} (a : Nat) (h1 : lab xs a < 0) (h2 : 0 ≤ lab ys a) : ∀ n, a < n → (∀ j : Nat, j < n → lab ys j < 0 → lab xs j < 0) → negs ys n < negs xs n
  | 0, h, _ => by omega
  | n + 1, hn, h => by
    unfold negs
    by_cases he : a = n
    · subst he
      have := negs_mono a (fun j hj => h j (by omega))
      rw [if_pos h1, if_neg (by omega)]
      omega
    · have := negs_lt a h1 h2 n (by omega) (fun j hj => h j (by omega))
      have h3 := h n (by omega)
      split
      · next h4 => rw [if_pos (h3 h4)]; omega
      · split <;> omega

/-- Where the leads lead. -/
inductive Reach (adj : Int → List Int) : Int → Int → Prop
  | refl (a : Int) : Reach adj a a
  | step {a b c : Int} : b ∈ adj a → Reach adj b c → Reach adj a c
theorem Reach.tail {adj : Int → List Int} {a b c : Int} (h : Reach adj a b) (hc : c ∈ adj b) : Reach adj a c := by
  induction h with
  | refl a => exact .step hc (.refl _)
  | step h1 _ ih => exact .step h1 (ih hc)

/-- All leads lie among n positions. -/
def Inner (adj : Int → List Int) (n : Nat) : Prop := ∀ j k : Int, k ∈ adj j → 0 ≤ k ∧ k < n

/-- What a visit of some positions leaves: labels stay, new ones are least, and lead on to labelled positions (or are among those under way). -/
structure Vis (adj : Int → List Int) (n : Nat) (a : Int) (least : Int) (xs ys : List Int) : Prop where
  len : ys.length = xs.length
  keep : ∀ j : Int, 0 ≤ j → j < n → 0 ≤ lab xs j → lab ys j = lab xs j
  or : ∀ j : Int, 0 ≤ j → j < n → lab xs j < 0 → lab ys j < 0 ∨ lab ys j = least
  new : ∀ j : Int, 0 ≤ j → j < n → lab xs j < 0 → 0 ≤ lab ys j → Reach adj a j ∧ ∀ k ∈ adj j, 0 ≤ lab ys k

theorem Vis.refl (adj : Int → List Int) (n : Nat) (a least : Int) (xs : List Int) : Vis adj n a least xs xs :=
  ⟨rfl, fun _ _ _ _ => rfl, fun _ _ _ h => .inl h, fun _ _ _ h h2 => by omega⟩

theorem Vis.negs {adj : Int → List Int} {n : Nat} {a least : Int} {xs ys : List Int} (h : Vis adj n a least xs ys) : negs ys n ≤ negs xs n :=
  negs_mono n (fun j hj hy => by
    by_cases h2 : lab xs j < 0
    · exact h2
    · rw [h.keep j (by omega) (by omega) (by omega)] at hy
      exact hy)

/-- One neighbour more. -/
theorem Vis.next {adj : Int → List Int} {n : Nat} {a b least : Int} {xs ys zs : List Int} (hin : Inner adj n) (h : Vis adj n a least xs ys) (h2 : Vis adj n b least ys zs) (hb : b ∈ adj a) (hl : 0 ≤ least) : Vis adj n a least xs zs := by
  refine ⟨h2.len.trans h.len, fun j h0 hn hx => ?_, fun j h0 hn hx => ?_, fun j h0 hn hx hz => ?_⟩
  · rw [h2.keep j h0 hn (by rw [h.keep j h0 hn hx]; exact hx), h.keep j h0 hn hx]
  · rcases h.or j h0 hn hx with h3 | h3
    · exact h2.or j h0 hn h3
    · exact .inr (by rw [h2.keep j h0 hn (by omega), h3])
  · by_cases h3 : lab ys j < 0
    · obtain ⟨h4, h5⟩ := h2.new j h0 hn h3 hz
      exact ⟨.step hb h4, h5⟩
    · obtain ⟨h4, h5⟩ := h.new j h0 hn hx (by omega)
      refine ⟨h4, fun k hk => ?_⟩
      obtain ⟨k0, kn⟩ := hin j k hk
      rw [h2.keep k k0 kn (h5 k hk)]
      exact h5 k hk

/-- The position itself gets its label, and then all neighbours are visited. -/
theorem Vis.first {adj : Int → List Int} {n : Nat} {a least : Int} {xs zs : List Int} (hxl : xs.length = n) (ha : 0 ≤ a) (han : a < n) (hxa : lab xs a < 0) (hl : 0 ≤ least) (h : Vis adj n a least (xs.set a.toNat least) zs) (hall : ∀ k ∈ adj a, 0 ≤ lab zs k) :
    Vis adj n a least xs zs ∧ 0 ≤ lab zs a := by
  have hs : ∀ j : Int, 0 ≤ j → j < n → lab (xs.set a.toNat least) j = if j = a then least else lab xs j := fun j h0 hn => lab_set xs a j least ha (by omega) h0 (by omega)
  have hza : lab zs a = least := by
    have := h.keep a ha han (by rw [hs a ha han, if_pos rfl]; exact hl)
    rw [this, hs a ha han, if_pos rfl]
  refine ⟨⟨by rw [h.len, List.length_set], fun j h0 hn hx => ?_, fun j h0 hn hx => ?_, fun j h0 hn hx hz => ?_⟩, by omega⟩
  · have he : j ≠ a := fun e => by subst e; omega
    have := h.keep j h0 hn (by rw [hs j h0 hn, if_neg he]; exact hx)
    rw [this, hs j h0 hn, if_neg he]
  · by_cases he : j = a
    · subst he; exact .inr hza
    · exact h.or j h0 hn (by rw [hs j h0 hn, if_neg he]; exact hx)
  · by_cases he : j = a
    · subst he; exact ⟨.refl _, hall⟩
    · exact h.new j h0 hn (by rw [hs j h0 hn, if_neg he]; exact hx) hz

/-- Behind the visits of the positions below i. -/
structure Labels (adj : Int → List Int) (n : Nat) (i : Nat) (xs : List Int) : Prop where
  len : xs.length = n
  done : ∀ j : Int, 0 ≤ j → j < i → 0 ≤ lab xs j
  low : ∀ j : Int, 0 ≤ j → j < n → 0 ≤ lab xs j → lab xs j ≤ j
  self : ∀ j : Int, 0 ≤ j → j < n → 0 ≤ lab xs j → lab xs (lab xs j) = lab xs j
  reach : ∀ j : Int, 0 ≤ j → j < n → 0 ≤ lab xs j → Reach adj (lab xs j) j
  same : ∀ j : Int, 0 ≤ j → j < n → 0 ≤ lab xs j → ∀ k ∈ adj j, lab xs k = lab xs j

theorem Labels.all {adj : Int → List Int} {n i : Nat} {xs : List Int} (hin : Inner adj n) (h : Labels adj n i xs) {a j : Int} (hr : Reach adj a j) : 0 ≤ a → a < n → 0 ≤ lab xs a → lab xs j = lab xs a := by
  induction hr with
  | refl a => intro _ _ _; rfl
  | step h1 _ ih =>
    intro h0 hn hx
    obtain ⟨k0, kn⟩ := hin _ _ h1
    have h2 := h.same _ h0 hn hx _ h1
    rw [ih k0 kn (by omega), h2]

theorem Labels.next {adj : Int → List Int} {n i : Nat} {xs ys : List Int} (hin : Inner adj n) (hsym : ∀ j k : Int, 0 ≤ j → j < n → k ∈ adj j → j ∈ adj k) (hi : i < n) (h : Labels adj n i xs) (hv : Vis adj n i i xs ys) (hat : 0 ≤ lab ys i) : Labels adj n (i + 1) ys := by
  have hnew : ∀ j : Int, 0 ≤ j → j < n → lab xs j < 0 → 0 ≤ lab ys j → lab ys j = i ∧ (i : Int) ≤ j ∧ Reach adj i j ∧ (∀ k ∈ adj j, lab ys k = i) ∧ lab xs i < 0 := by
    intro j h0 hn hx hy
    have h1 : lab ys j = i := by
      rcases hv.or j h0 hn hx with h1 | h1
      · omega
      · exact h1
    obtain ⟨h2, h3⟩ := hv.new j h0 hn hx hy
    have h4 : (i : Int) ≤ j := by
      rcases Int.lt_or_le j i with h4 | h4
      · have := h.done j h0 h4; omega
      · exact h4
    refine ⟨h1, h4, h2, fun k hk => ?_, ?_⟩
    · obtain ⟨k0, kn⟩ := hin j k hk
      have hyk := h3 k hk
      by_cases hxk : lab xs k < 0
      · rcases hv.or k k0 kn hxk with h5 | h5
        · omega
        · exact h5
      · have := h.same k k0 kn (by omega) j (hsym j k h0 hn hk)
        omega
    · rcases Int.lt_or_le (lab xs i) 0 with h5 | h5
      · exact h5
      · have := h.all hin h2 (by omega) (by omega) h5
        omega
  have hold : ∀ j : Int, 0 ≤ j → j < n → 0 ≤ lab xs j → lab ys j = lab xs j := hv.keep
  refine ⟨hv.len.trans h.len, fun j h0 hj => ?_, fun j h0 hn hy => ?_, fun j h0 hn hy => ?_, fun j h0 hn hy => ?_, fun j h0 hn hy k hk => ?_⟩
  · by_cases he : j = i
    · rw [he]; exact hat
    · have := h.done j h0 (by omega)
      rw [hold j h0 (by omega) this]
      exact this
  · by_cases hx : lab xs j < 0
    · obtain ⟨h1, h2, _⟩ := hnew j h0 hn hx hy; omega
    · rw [hold j h0 hn (by omega)]; exact h.low j h0 hn (by omega)
  · by_cases hx : lab xs j < 0
    · obtain ⟨h1, h2, _, _, h5⟩ := hnew j h0 hn hx hy
      rw [h1]
      exact (hnew i (by omega) (by omega) h5 hat).1
    · rw [hold j h0 hn (by omega)]
      have h1 := h.self j h0 hn (by omega)
      have h2 := h.low j h0 hn (by omega)
      rw [hold _ (by omega) (by omega) (by rw [h1]; omega), h1]
  · by_cases hx : lab xs j < 0
    · obtain ⟨h1, _, h3, _⟩ := hnew j h0 hn hx hy
      rw [h1]; exact h3
    · rw [hold j h0 hn (by omega)]; exact h.reach j h0 hn (by omega)
  · obtain ⟨k0, kn⟩ := hin j k hk
    by_cases hx : lab xs j < 0
    · obtain ⟨h1, _, _, h4, _⟩ := hnew j h0 hn hx hy
      rw [h1]; exact h4 k hk
    · have h1 := h.same j h0 hn (by omega) k hk
      rw [hold j h0 hn (by omega), hold k k0 kn (by omega), h1]

/-- The leads of some pairs. -/
def upd (adj : Int → List Int) (a b : Int) : Int → List Int := fun k => if k = a then adj k ++ [b] else adj k
def adjOf : List Pr → Int → List Int
  | [] => fun _ => []
  | p :: ps => fun k => (if p.f0 = k then [p.f1] else []) ++ (if p.f1 = k then [p.f0] else []) ++ adjOf ps k
theorem adjOf_snoc (ps : List Pr) (p : Pr) : adjOf (ps ++ [p]) = upd (upd (adjOf ps) p.f0 p.f1) p.f1 p.f0 := by
  funext k
  have e1 : (p.f0 = k) = (k = p.f0) := propext eq_comm
  have e2 : (p.f1 = k) = (k = p.f1) := propext eq_comm
  induction ps with
  | nil =>
    simp only [List.nil_append, adjOf, upd, List.append_nil, e1, e2]
    by_cases h1 : k = p.f0
    · by_cases h2 : k = p.f1
      · simp only [if_pos h1, if_pos h2]; try rfl
      · simp only [if_pos h1, if_neg h2]; try rfl
    · by_cases h2 : k = p.f1
      · simp only [if_neg h1, if_pos h2]
      · simp only [if_neg h1, if_neg h2]; try rfl
  | cons x ps ih =>
    rw [List.cons_append]
    simp only [adjOf]
    rw [ih]
    simp only [upd]
    by_cases h1 : k = p.f0
    · by_cases h2 : k = p.f1
      · simp only [if_pos h1, if_pos h2, adjOf, List.append_assoc]
      · simp only [if_pos h1, if_neg h2, adjOf, List.append_assoc]
    · by_cases h2 : k = p.f1
      · simp only [if_neg h1, if_pos h2, adjOf, List.append_assoc]
      · simp only [if_neg h1, if_neg h2, adjOf, List.append_assoc]
theorem adjOf_mem (ps : List Pr) (j k : Int) : k ∈ adjOf ps j ↔ ∃ p ∈ ps, (p.f0 = j ∧ p.f1 = k) ∨ (p.f1 = j ∧ p.f0 = k) := by
  induction ps with
  | nil => simp [adjOf]
  | cons x ps ih =>
    simp only [adjOf, List.mem_append, ih, List.mem_cons, exists_eq_or_imp]
    constructor
    · rintro ((h | h) | h)
      · split at h
        · next h1 => simp at h; exact .inl (.inl ⟨h1, h.symm⟩)
        · simp at h
      · split at h
        · next h1 => simp at h; exact .inl (.inr ⟨h1, h.symm⟩)
        · simp at h
      · exact .inr h
    · rintro ((⟨h1, h2⟩ | ⟨h1, h2⟩) | h)
      · exact .inl (.inl (by rw [if_pos h1]; simp [h2]))
      · exact .inl (.inr (by rw [if_pos h1]; simp [h2]))
      · exact .inr h
theorem adjOf_len (ps : List Pr) (k : Int) : (adjOf ps k).length ≤ 2 * ps.length := by
  induction ps with
  | nil => simp [adjOf]
  | cons x ps ih =>
    simp only [adjOf, List.length_append, List.length_cons]
    split <;> split <;> simp <;> omega

end Go.Proofs.Ytghdeoeajbnfkaa.WSl

namespace Go.Proofs.Ytghdeoeajbnfkaa.WSl
open Go.RowKit Go.Proofs.Ytghdeoeajbnfkaa.WMem
set_option linter.unusedSimpArgs false
set_option linter.unusedVariables false

theorem mrow_mem (l : List Sl) (i : Nat) (out : List Pr) (p : Pr) : ∀ q, p ∈ mrow l i out q ↔ p ∈ out ∨ ∃ j, i < j ∧ j < i + 1 + q ∧ mee l i j = true ∧ p = ⟨i, j⟩
  | 0 => by
    constructor
    · exact .inl
    · rintro (h | ⟨j, h1, h2, _⟩)
      · exact h
      · omega
  | q + 1 => by
    have ih := mrow_mem l i out p q
    unfold mrow
    by_cases hm : mee l i (i + 1 + q) = true
    · rw [if_pos hm, List.mem_append, ih, List.mem_singleton]
      constructor
      · rintro ((h | ⟨j, h1, h2, h3, h4⟩) | h)
        · exact .inl h
        · exact .inr ⟨j, h1, by omega, h3, h4⟩
        · exact .inr ⟨i + 1 + q, by omega, by omega, hm, h⟩
      · rintro (h | ⟨j, h1, h2, h3, h4⟩)
        · exact .inl (.inl h)
        · by_cases he : j = i + 1 + q
          · subst he; exact .inr h4
          · exact .inl (.inr ⟨j, h1, by omega, h3, h4⟩)
    · rw [if_neg hm, ih]
      constructor
      · rintro (h | ⟨j, h1, h2, h3, h4⟩)
        · exact .inl h
        · exact .inr ⟨j, h1, by omega, h3, h4⟩
      · rintro (h | ⟨j, h1, h2, h3, h4⟩)
        · exact .inl h
        · by_cases he : j = i + 1 + q
          · subst he; exact absurd h3 hm
          · exact .inr ⟨j, h1, by omega, h3, h4⟩
theorem mall_mem (l : List Sl) (p : Pr) : ∀ k, k ≤ l.length → (p ∈ mall l k ↔ ∃ i j : Nat, i < k ∧ i < j ∧ j < l.length ∧ mee l i j = true ∧ p = ⟨i, j⟩)
  | 0, _ => by simp [mall]
  | k + 1, hk => by
    have ih := mall_mem l p k (by omega)
    unfold mall
    rw [mrow_mem, ih]
    constructor
    · rintro (⟨i, j, h1, h2⟩ | ⟨j, h1, h2, h3⟩)
      · exact ⟨i, j, by omega, h2⟩
      · exact ⟨k, j, by omega, h1, by omega, h3⟩
    · rintro ⟨i, j, h1, h2, h3, h4, h5⟩
      by_cases he : i = k
      · subst he; exact .inr ⟨j, h2, by omega, h4, h5⟩
      · exact .inl ⟨i, j, by omega, h2, h3, h4, h5⟩

theorem mall_inner (l : List Sl) : Inner (adjOf (mall l l.length)) l.length := fun a b hb => by
  obtain ⟨p, hp, h⟩ := (adjOf_mem _ _ _).1 hb
  obtain ⟨i, j, h1, h2, h3, h4, rfl⟩ := (mall_mem l p _ (Nat.le_refl _)).1 hp
  rcases h with ⟨rfl, rfl⟩ | ⟨rfl, rfl⟩
  · exact ⟨by show (0 : Int) ≤ (j : Int); omega, by show (j : Int) < _; omega⟩
  · exact ⟨by show (0 : Int) ≤ (i : Int); omega, by show (i : Int) < _; omega⟩
theorem adjOf_sym (ps : List Pr) (j k : Int) (h : k ∈ adjOf ps j) : j ∈ adjOf ps k := by
  obtain ⟨p, hp, h⟩ := (adjOf_mem _ _ _).1 h
  exact (adjOf_mem _ _ _).2 ⟨p, hp, h.elim (fun h => .inr ⟨h.2, h.1⟩) (fun h => .inl ⟨h.2, h.1⟩)⟩

/-- Before the first visit. -/
theorem Labels.start (adj : Int → List Int) (n : Nat) : Labels adj n 0 (List.replicate n (-1)) := by
  have h : ∀ j : Int, 0 ≤ j → j < n → lab (List.replicate n (-1)) j = -1 := fun j h0 hn => by
    unfold lab
    rw [List.getD_eq_getElem?_getD, List.getElem?_replicate, if_pos (by omega)]
    rfl
  exact ⟨by simp, fun j h0 hj => by omega, fun j h0 hn hx => by rw [h j h0 hn] at hx; omega, fun j h0 hn hx => by rw [h j h0 hn] at hx; omega, fun j h0 hn hx => by rw [h j h0 hn] at hx; omega, fun j h0 hn hx => by rw [h j h0 hn] at hx; omega⟩

end Go.Proofs.Ytghdeoeajbnfkaa.WSl
