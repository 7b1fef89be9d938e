/- The loop that lowers labels along pairs ends with those that Groups finds. -/
import Derived.Test.YtghdeoeajbnfkaaWMallP
namespace Go.Proofs.Ytghdeoeajbnfkaa.WSl
open Go.RowKit Go.Proofs.Ytghdeoeajbnfkaa.WMem
set_option linter.unusedSimpArgs false
set_option linter.unusedVariables false

/-- Both ends of a pair get the lesser label. -/
def lstep (g : List Int) (p : Pr) : List Int :=
  (g.set p.f0.toNat (if lab g p.f1 < lab g p.f0 then lab g p.f1 else lab g p.f0)).set p.f1.toNat (if lab g p.f1 < lab g p.f0 then lab g p.f1 else lab g p.f0)
/-- The first k pairs. -/
def lfold (ps : List Pr) (g : List Int) : Nat → List Int
  | 0 => g
  | k + 1 => match ps[k]? with
    | some p => lstep (lfold ps g k) p
    | none => lfold ps g k
/-- The first r rounds. -/
def lrounds (ps : List Pr) (g : List Int) : Nat → List Int
  | 0 => g
  | r + 1 => lfold ps (lrounds ps g r) ps.length

theorem lab_set2 (xs : List Int) (a b k v : Int) (ha : 0 ≤ a ∧ a < xs.length) (hb : 0 ≤ b ∧ b < xs.length) (hk : 0 ≤ k ∧ k < xs.length) : lab ((xs.set a.toNat v).set b.toNat v) k = if k = a ∨ k = b then v else lab xs k := by
  rw [lab_set _ b k v hb.1 (by rw [List.length_set]; exact hb.2) hk.1 (by rw [List.length_set]; exact hk.2), lab_set _ a k v ha.1 ha.2 hk.1 hk.2]
  by_cases h1 : k = b
  · rw [if_pos h1, if_pos (.inr h1)]
  · rw [if_neg h1]
    by_cases h2 : k = a
    · rw [if_pos h2, if_pos (.inl h2)]
    · rw [if_neg h2, if_neg (fun h => h.elim h2 h1)]

/-- The ends of pairs lie among n positions. -/
def PIn (ps : List Pr) (n : Nat) : Prop := ∀ p ∈ ps, 0 ≤ p.f0 ∧ p.f0 < n ∧ 0 ≤ p.f1 ∧ p.f1 < n

/-- Labels on their way down to ys. -/
structure Down (ys : List Int) (n : Nat) (g : List Int) : Prop where
  len : g.length = n
  lo : ∀ j : Int, 0 ≤ j → j < n → lab ys j ≤ lab g j
  hi : ∀ j : Int, 0 ≤ j → j < n → lab g j ≤ j

theorem Down.step {ys g : List Int} {n : Nat} {p : Pr} (h : Down ys n g) (hp : 0 ≤ p.f0 ∧ p.f0 < n ∧ 0 ≤ p.f1 ∧ p.f1 < n) (he : lab ys p.f0 = lab ys p.f1) :
    Down ys n (lstep g p) ∧ (∀ j : Int, 0 ≤ j → j < n → lab (lstep g p) j ≤ lab g j) ∧ (lab g p.f0 = lab ys p.f0 ∨ lab g p.f1 = lab ys p.f1 → lab (lstep g p) p.f0 = lab ys p.f0 ∧ lab (lstep g p) p.f1 = lab ys p.f1) := by
  obtain ⟨h1, h2, h3, h4⟩ := hp
  have ha := h.lo p.f0 h1 h2
  have hb := h.lo p.f1 h3 h4
  have hl := h.len
  have hs : ∀ j : Int, 0 ≤ j → j < n → lab (lstep g p) j = if j = p.f0 ∨ j = p.f1 then (if lab g p.f1 < lab g p.f0 then lab g p.f1 else lab g p.f0) else lab g j := fun j h0 hn => lab_set2 g p.f0 p.f1 j _ ⟨h1, by omega⟩ ⟨h3, by omega⟩ ⟨h0, by omega⟩
  have hmin : (if lab g p.f1 < lab g p.f0 then lab g p.f1 else lab g p.f0) ≤ lab g p.f0 ∧ (if lab g p.f1 < lab g p.f0 then lab g p.f1 else lab g p.f0) ≤ lab g p.f1 ∧ lab ys p.f0 ≤ (if lab g p.f1 < lab g p.f0 then lab g p.f1 else lab g p.f0) := by
    split <;> omega
  generalize (if lab g p.f1 < lab g p.f0 then lab g p.f1 else lab g p.f0) = m at hs hmin
  have hdn : ∀ j : Int, 0 ≤ j → j < n → lab (lstep g p) j ≤ lab g j := fun j h0 hn => by
    rw [hs j h0 hn]
    split
    · next h5 =>
      rcases h5 with h5 | h5
      · rw [h5]; exact hmin.1
      · rw [h5]; exact hmin.2.1
    · exact Int.le_refl _
  refine ⟨⟨by unfold lstep; simp [hl], fun j h0 hn => ?_, fun j h0 hn => Int.le_trans (hdn j h0 hn) (h.hi j h0 hn)⟩, hdn, fun hc => ?_⟩
  · rw [hs j h0 hn]
    split
    · next h5 =>
      rcases h5 with h5 | h5
      · rw [h5]; exact hmin.2.2
      · rw [h5]; omega
    · exact h.lo j h0 hn
  · rw [hs p.f0 h1 h2, hs p.f1 h3 h4, if_pos (.inl rfl), if_pos (.inr rfl)]
    rcases hc with hc | hc <;> omega

theorem Down.fold {ys g : List Int} {n : Nat} {ps : List Pr} (h : Down ys n g) (hp : PIn ps n) (he : ∀ p ∈ ps, lab ys p.f0 = lab ys p.f1) : ∀ k,
    Down ys n (lfold ps g k) ∧ (∀ j : Int, 0 ≤ j → j < n → lab (lfold ps g k) j ≤ lab g j) ∧ (∀ i p, i < k → ps[i]? = some p → lab g p.f0 = lab ys p.f0 ∨ lab g p.f1 = lab ys p.f1 → lab (lfold ps g k) p.f0 = lab ys p.f0 ∧ lab (lfold ps g k) p.f1 = lab ys p.f1)
  | 0 => ⟨h, fun j _ _ => Int.le_refl _, fun i p hi => by omega⟩
  | k + 1 => by
    obtain ⟨h1, h2, h3⟩ := Down.fold h hp he k
    unfold lfold
    cases hq : ps[k]? with
    | none =>
      refine ⟨h1, h2, fun i p hi hpi hc => ?_⟩
      refine h3 i p ?_ hpi hc
      have := (List.getElem?_eq_some_iff.1 hpi).choose
      have := List.getElem?_eq_none_iff.1 hq
      omega
    | some q =>
      have hqm : q ∈ ps := List.mem_of_getElem? hq
      obtain ⟨s1, s2, s3⟩ := h1.step (hp q hqm) (he q hqm)
      refine ⟨s1, fun j h0 hn => Int.le_trans (s2 j h0 hn) (h2 j h0 hn), fun i p hi hpi hc => ?_⟩
      have hpm : p ∈ ps := List.mem_of_getElem? hpi
      obtain ⟨b1, b2, b3, b4⟩ := hp p hpm
      by_cases hik : i = k
      · subst hik
        rw [hq] at hpi
        cases hpi
        refine s3 ?_
        rcases hc with hc | hc
        · have := h2 q.f0 b1 b2
          have := h1.lo q.f0 b1 b2
          left; omega
        · have := h2 q.f1 b3 b4
          have := h1.lo q.f1 b3 b4
          right; omega
      · obtain ⟨c1, c2⟩ := h3 i p (by omega) hpi hc
        have d1 := s2 p.f0 b1 b2
        have d2 := s2 p.f1 b3 b4
        have d3 := s1.lo p.f0 b1 b2
        have d4 := s1.lo p.f1 b3 b4
        show lab (lstep (lfold ps g k) q) p.f0 = _ ∧ lab (lstep (lfold ps g k) q) p.f1 = _
        omega

/-- How many positions below k have not yet their label. -/
def wrong (ys g : List Int) : Nat → Nat
  | 0 => 0
  | k + 1 => wrong ys g k + if lab g k = lab ys k then 0 else 1
theorem wrong_le (ys g : List Int) : ∀ k, wrong ys g k ≤ k
  | 0 => Nat.le_refl _
  | k + 1 => by
    have := wrong_le ys g k
    unfold wrong
    split <;> omega
theorem wrong_mono {ys g g' : List Int} : ∀ k, (∀ j : Nat, j < k → lab g j = lab ys j → lab g' j = lab ys j) → wrong ys g' k ≤ wrong ys g k
  | 0, _ => Nat.le_refl _
  | k + 1, h => by
    have h1 := wrong_mono k (fun j hj => h j (by omega))
    have h2 := h k (by omega)
    unfold wrong
    split
    · split <;> omega
    · next h3 => rw [if_neg (fun h4 => h3 (h2 h4))]; omega
theorem wrong_lt {ys g g' : List Int} (a : Nat) (ha : lab g a ≠ lab ys a) (ha' : lab g' a = lab ys a) : ∀ k, a < k → (∀ j : Nat, j < k → lab g j = lab ys j → lab g' j = lab ys j) → wrong ys g' k < wrong ys g k
  | 0, h, _ => by omega
  | k + 1, hk, h => by
    unfold wrong
    by_cases he : a = k
    · subst he
      have := wrong_mono a (fun j hj => h j (by omega))
      rw [if_pos ha', if_neg ha]
      omega
    · have := wrong_lt a ha ha' k (by omega) (fun j hj => h j (by omega))
      have h2 := h k (by omega)
      split
      · split <;> omega
      · next h3 => rw [if_neg (fun h4 => h3 (h2 h4))]; omega
theorem wrong_zero {ys g : List Int} : ∀ k, wrong ys g k = 0 → ∀ j : Nat, j < k → lab g j = lab ys j
  | 0, _, j, hj => by omega
  | k + 1, h, j, hj => by
    unfold wrong at h
    by_cases he : j = k
    · subst he
      by_cases h2 : lab g j = lab ys j
      · exact h2
      · rw [if_neg h2] at h; omega
    · exact wrong_zero k (by omega) j (by omega)
theorem wrong_some {ys g : List Int} : ∀ k, 0 < wrong ys g k → ∃ j : Nat, j < k ∧ lab g j ≠ lab ys j
  | 0, h => by simp [wrong] at h
  | k + 1, h => by
    by_cases h2 : lab g k = lab ys k
    · unfold wrong at h
      rw [if_pos h2] at h
      obtain ⟨j, hj, hh⟩ := wrong_some k h
      exact ⟨j, by omega, hh⟩
    · exact ⟨k, by omega, h2⟩

/-- A path from a right position to a wrong one has a pair where it turns. -/
theorem Reach.turn {adj : Int → List Int} {R : Int → Prop} [DecidablePred R] {a c : Int} (h : Reach adj a c) : R a → ¬ R c → ∃ x y, y ∈ adj x ∧ R x ∧ ¬ R y := by
  induction h with
  | refl a => intro h1 h2; exact absurd h1 h2
  | @step a b c hb _ ih =>
    intro h1 h2
    by_cases h3 : R b
    · exact ih h3 h2
    · exact ⟨a, b, hb, h1, h3⟩

theorem round_lt {ys g : List Int} {n : Nat} {ps : List Pr} (hL : Labels (adjOf ps) n n ys) (hp : PIn ps n) (h : Down ys n g) (hw : 0 < wrong ys g n) : Down ys n (lfold ps g ps.length) ∧ wrong ys (lfold ps g ps.length) n < wrong ys g n := by
  have he : ∀ p ∈ ps, lab ys p.f0 = lab ys p.f1 := fun p hpm => by
    obtain ⟨b1, b2, b3, b4⟩ := hp p hpm
    exact (hL.same p.f0 b1 b2 (hL.done p.f0 b1 b2) p.f1 ((adjOf_mem _ _ _).2 ⟨p, hpm, .inl ⟨rfl, rfl⟩⟩)).symm
  obtain ⟨h1, h2, h3⟩ := h.fold hp he ps.length
  have hkeep : ∀ j : Nat, j < n → lab g j = lab ys j → lab (lfold ps g ps.length) j = lab ys j := fun j hj hc => by
    have := h2 j (by omega) (by omega)
    have := h1.lo j (by omega) (by omega)
    omega
  refine ⟨h1, ?_⟩
  obtain ⟨j, hj, hne⟩ := wrong_some n hw
  have d0 := hL.done j (by omega) (by omega)
  have d1 := hL.low j (by omega) (by omega) d0
  have d2 := hL.self j (by omega) (by omega) d0
  have hroot : lab g (lab ys j) = lab ys (lab ys j) := by
    have e1 := h.hi (lab ys j) d0 (by omega)
    have e2 := h.lo (lab ys j) d0 (by omega)
    omega
  obtain ⟨x, y, hxy, hx, hy⟩ := Reach.turn (R := fun z => lab g z = lab ys z) (hL.reach j (by omega) (by omega) d0) hroot hne
  obtain ⟨p, hpm, hpe⟩ := (adjOf_mem _ _ _).1 hxy
  obtain ⟨b1, b2, b3, b4⟩ := hp p hpm
  obtain ⟨i, hi, hpi⟩ := List.getElem_of_mem hpm
  have hpi2 : ps[i]? = some p := by rw [List.getElem?_eq_getElem hi, hpi]
  have hboth := h3 i p hi hpi2 (by
    rcases hpe with ⟨e1, e2⟩ | ⟨e1, e2⟩
    · left; rw [e1]; exact hx
    · right; rw [e1]; exact hx)
  rcases hpe with ⟨e1, e2⟩ | ⟨e1, e2⟩
  · subst e1 e2
    refine wrong_lt p.f1.toNat ?_ ?_ n (by omega) hkeep
    · rw [Int.toNat_of_nonneg b3]; exact hy
    · rw [Int.toNat_of_nonneg b3]; exact hboth.2
  · subst e1 e2
    refine wrong_lt p.f0.toNat ?_ ?_ n (by omega) hkeep
    · rw [Int.toNat_of_nonneg b1]; exact hy
    · rw [Int.toNat_of_nonneg b1]; exact hboth.1

theorem rounds_down {ys g : List Int} {n : Nat} {ps : List Pr} (hL : Labels (adjOf ps) n n ys) (hp : PIn ps n) (h : Down ys n g) : ∀ r, Down ys n (lrounds ps g r) ∧ (wrong ys (lrounds ps g r) n = 0 ∨ wrong ys (lrounds ps g r) n + r ≤ n)
  | 0 => ⟨h, .inr (by have := wrong_le ys g n; show wrong ys g n + 0 ≤ n; omega)⟩
  | r + 1 => by
    obtain ⟨h1, h2⟩ := rounds_down hL hp h r
    show Down ys n (lfold ps (lrounds ps g r) ps.length) ∧ _
    by_cases hw : 0 < wrong ys (lrounds ps g r) n
    · obtain ⟨h3, h4⟩ := round_lt hL hp h1 hw
      refine ⟨h3, .inr ?_⟩
      show wrong ys (lfold ps (lrounds ps g r) ps.length) n + (r + 1) ≤ n
      omega
    · have he : ∀ p ∈ ps, lab ys p.f0 = lab ys p.f1 := fun p hpm => by
        obtain ⟨b1, b2, b3, b4⟩ := hp p hpm
        exact (hL.same p.f0 b1 b2 (hL.done p.f0 b1 b2) p.f1 ((adjOf_mem _ _ _).2 ⟨p, hpm, .inl ⟨rfl, rfl⟩⟩)).symm
      obtain ⟨h3, h4, _⟩ := h1.fold hp he ps.length
      refine ⟨h3, .inl ?_⟩
      have hz := wrong_zero n (show wrong ys (lrounds ps g r) n = 0 by omega)
      have := wrong_mono (ys := ys) (g := lrounds ps g r) (g' := lfold ps (lrounds ps g r) ps.length) n (fun j hj hc => by
        have := h4 j (by omega) (by omega)
        have := h3.lo j (by omega) (by omega)
        omega)
      show wrong ys (lfold ps (lrounds ps g r) ps.length) n = 0
      omega

/-- Each position at first. -/
def ids (n : Nat) : List Int := (List.range n).map (fun (j : Nat) => (j : Int))
theorem lab_ids (n : Nat) (j : Int) (h0 : 0 ≤ j) (hn : j < n) : lab (ids n) j = j := by
  unfold lab ids
  rw [List.getD_eq_getElem?_getD, List.getElem?_map, List.getElem?_range (by omega)]
  simp
  omega

theorem rounds_end {ys : List Int} {n : Nat} {ps : List Pr} (hL : Labels (adjOf ps) n n ys) (hp : PIn ps n) : lrounds ps (ids n) n = ys := by
  have h0 : Down ys n (ids n) := ⟨by simp [ids], fun j h0 hn => by rw [lab_ids n j h0 hn]; exact hL.low j h0 hn (hL.done j h0 hn), fun j h0 hn => by rw [lab_ids n j h0 hn]; exact Int.le_refl _⟩
  obtain ⟨h1, h2⟩ := rounds_down hL hp h0 n
  have hz : wrong ys (lrounds ps (ids n) n) n = 0 := by omega
  have := wrong_zero n hz
  apply List.ext_getElem?
  intro i
  by_cases hi : i < n
  · have h3 := this i hi
    unfold lab at h3
    rw [Int.toNat_natCast, List.getD_eq_getElem?_getD, List.getD_eq_getElem?_getD, List.getElem?_eq_getElem (by rw [h1.len]; exact hi), List.getElem?_eq_getElem (by rw [hL.len]; exact hi)] at h3
    rw [List.getElem?_eq_getElem (by rw [h1.len]; exact hi), List.getElem?_eq_getElem (by rw [hL.len]; exact hi)]
    simpa using h3
  · rw [List.getElem?_eq_none (by rw [h1.len]; omega), List.getElem?_eq_none (by rw [hL.len]; omega)]

theorem mall_pin (l : List Sl) : PIn (mall l l.length) l.length := fun p hp => by
  obtain ⟨i, j, h1, h2, h3, h4, rfl⟩ := (mall_mem l p _ (Nat.le_refl _)).1 hp
  exact ⟨by show (0 : Int) ≤ (i : Int); omega, by show (i : Int) < _; omega, by show (0 : Int) ≤ (j : Int); omega, by show (j : Int) < _; omega⟩

end Go.Proofs.Ytghdeoeajbnfkaa.WSl
