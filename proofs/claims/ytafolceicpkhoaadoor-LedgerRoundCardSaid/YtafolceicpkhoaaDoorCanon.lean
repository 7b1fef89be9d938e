/- Decimal numerals that Itoa writes, of at most nine digits: the reference's conditions and the program's say the same. Plain lists. -/
import Derived.Test.YtafolceicpkhoaaDoorNum
import Derived.Lib.AtoiTie
import Derived.Lib.SlTrimSet
namespace Go.Proofs.YtafolceicpkhoaaDoor.Pol
set_option linter.unusedVariables false
set_option linter.unusedSimpArgs false

def tp (l : List UInt8) : List UInt8 := Lib.trimPrefix l [45]
theorem tp_minus (l : List UInt8) : tp (45 :: l) = l := by
  unfold tp Lib.trimPrefix Lib.hasPrefix
  simp [List.isPrefixOf]
theorem tp_other (l : List UInt8) (h : ∀ t, l ≠ 45 :: t) : tp l = l := by
  unfold tp Lib.trimPrefix Lib.hasPrefix
  cases l with
  | nil => rfl
  | cons b r =>
    have n45 : b ≠ 45 := fun e => h r (by rw [e])
    have hp : [(45 : UInt8)].isPrefixOf (b :: r) = false := by simp [List.isPrefixOf, Ne.symm n45]
    rw [hp]; simp
def IsDig (b : UInt8) : Prop := 48 ≤ b.toNat ∧ b.toNat ≤ 57
instance (b : UInt8) : Decidable (IsDig b) := by unfold IsDig; exact inferInstance
/-- Digits without a superfluous zero. -/
def CanD (d : List UInt8) : Prop := d ≠ [] ∧ (∀ b ∈ d, IsDig b) ∧ (1 < d.length → d.head? ≠ some 48)

theorem dec_head (u : Nat) (h : 10 ≤ u) : (Lib.decDigits u).head? ≠ some 48 := by
  induction u using Nat.strongRecOn with
  | ind u ih =>
    rw [Lib.decDigits, dif_neg (by omega)]
    by_cases h2 : u / 10 < 10
    · rw [Lib.decDigits, dif_pos h2]
      have one : ∀ d : Fin 10, 1 ≤ d.val → UInt8.ofNat (48 + d.val) ≠ 48 := by decide
      simp only [List.singleton_append, List.head?_cons, ne_eq, Option.some.injEq]
      exact one ⟨u / 10, h2⟩ (by simp; omega)
    · have := ih (u / 10) (by omega) (by omega)
      have hne := (dec_digit (u / 10)).1
      cases hd : Lib.decDigits (u / 10) with
      | nil => exact absurd hd hne
      | cons a l =>
        rw [hd] at this
        simpa using this
theorem canD_dec (u : Nat) : CanD (Lib.decDigits u) := by
  obtain ⟨h1, h2⟩ := dec_digit u
  refine ⟨h1, h2, fun hl => ?_⟩
  by_cases h : 10 ≤ u
  · exact dec_head u h
  · rw [Lib.decDigits, dif_pos (by omega)] at hl
    simp at hl
theorem digit_of (b : UInt8) (h : IsDig b) : UInt8.ofNat (48 + (b.toNat - 48)) = b := by
  apply UInt8.toNat_inj.1
  have := h.1; have := h.2
  simp; omega
theorem dec_of (n : Nat) : ∀ d : List UInt8, d.length = n → CanD d → ∃ u, Lib.decDigits u = d ∧ (d.head? ≠ some 48 → 1 ≤ u) := by
  induction n with
  | zero => intro d hd hc; exact absurd (List.length_eq_zero_iff.1 hd) hc.1
  | succ n ih =>
    intro d hd hc
    obtain ⟨h1, h2, h3⟩ := hc
    have hx := List.dropLast_concat_getLast h1
    generalize hl : d.dropLast = d' at hx
    generalize hg : d.getLast h1 = c at hx
    have hcd : IsDig c := h2 c (by rw [← hx]; simp)
    have hc1 := hcd.1
    have hc2 := hcd.2
    have hlen : d'.length = n := by rw [← hl, List.length_dropLast, hd]; rfl
    subst hx
    by_cases hz : n = 0
    · have hd0 : d' = [] := List.length_eq_zero_iff.1 (by omega)
      subst hd0
      refine ⟨c.toNat - 48, ?_, fun hne => ?_⟩
      · rw [Lib.decDigits, dif_pos (by omega), digit_of c hcd]; rfl
      · by_cases h0 : c.toNat = 48
        · exact absurd (by rw [show c = 48 from UInt8.toNat_inj.1 h0]; rfl) hne
        · omega
    · have hne : d' ≠ [] := fun e => hz (by rw [← hlen, e]; rfl)
      have hh : (d' ++ [c]).head? = d'.head? := by
        cases d' with
        | nil => exact absurd rfl hne
        | cons a l => rfl
      have hd48 : d'.head? ≠ some 48 := by rw [← hh]; exact h3 (by simp; omega)
      obtain ⟨u, hu, hp⟩ := ih d' hlen ⟨hne, fun b hb => h2 b (by simp [hb]), fun _ => hd48⟩
      have hu1 := hp hd48
      refine ⟨u * 10 + (c.toNat - 48), ?_, fun _ => by omega⟩
      rw [Lib.decDigits, dif_neg (by omega)]
      have e1 : (u * 10 + (c.toNat - 48)) / 10 = u := by omega
      have e2 : (u * 10 + (c.toNat - 48)) % 10 = c.toNat - 48 := by omega
      rw [e1, e2, hu, digit_of c hcd]
theorem nDg (k : Nat) : ∀ u, u < 10 ^ (k + 1) → Lib.nDigits u ≤ k + 1 := by
  induction k with
  | zero => intro u h; rw [Lib.nDigits_small (by simpa using h)]; omega
  | succ k ih =>
    intro u h
    by_cases hs : u < 10
    · rw [Lib.nDigits_small hs]; omega
    · rw [Lib.nDigits_big hs]
      have := ih (u / 10) (by rw [Nat.pow_succ] at h; omega)
      omega
theorem nDg_low (k : Nat) : ∀ u, Lib.nDigits u ≤ k + 1 → u < 10 ^ (k + 1) := by
  induction k with
  | zero =>
    intro u h
    by_cases hs : u < 10
    · simpa using hs
    · rw [Lib.nDigits_big hs] at h
      have : 1 ≤ Lib.nDigits (u / 10) := by
        by_cases h2 : u / 10 < 10
        · rw [Lib.nDigits_small h2]; omega
        · rw [Lib.nDigits_big h2]; omega
      omega
  | succ k ih =>
    intro u h
    by_cases hs : u < 10
    · have h1 : 10 ≤ 10 ^ (k + 1 + 1) := by
        rw [Nat.pow_succ]
        have : 1 ≤ 10 ^ (k + 1) := Nat.one_le_pow _ _ (by omega)
        omega
      omega
    · rw [Lib.nDigits_big hs] at h
      have := ih (u / 10) (by omega)
      rw [Nat.pow_succ]; omega

/-- What Itoa writes, with at most nine digits. -/
def Can (l : List UInt8) (v : Int) : Prop := Lib.itoa v = l ∧ (tp l).length ≤ 9
theorem not_minus (u : Nat) (t : List UInt8) : Lib.decDigits u ≠ 45 :: t := by
  intro e
  have := (dec_digit u).2 45 (by rw [e]; simp)
  revert this; decide
theorem tp_dec (u : Nat) : tp (Lib.decDigits u) = Lib.decDigits u := tp_other _ (not_minus u)
theorem itoa_cases (v : Int) : (0 ≤ v ∧ Lib.itoa v = Lib.decDigits v.toNat) ∨ (v < 0 ∧ Lib.itoa v = 45 :: Lib.decDigits (-v).toNat) := by
  by_cases h : 0 ≤ v
  · exact .inl ⟨h, itoa_dec v h⟩
  · refine .inr ⟨by omega, ?_⟩
    unfold Lib.itoa
    rw [if_pos (by omega)]
    first | rfl | (congr 2; omega)
theorem can_small {l : List UInt8} {v : Int} (h : Can l v) : -1000000000 < v ∧ v < 1000000000 := by
  obtain ⟨rfl, h2⟩ := h
  rcases itoa_cases v with ⟨h0, e⟩ | ⟨h0, e⟩
  · rw [e, tp_dec, Lib.decDigits_length] at h2
    have := nDg_low 8 _ h2
    omega
  · rw [e, tp_minus, Lib.decDigits_length] at h2
    have := nDg_low 8 _ h2
    omega
theorem can_len {l : List UInt8} {v : Int} (h : Can l v) : l.length ≤ 10 := by
  obtain ⟨rfl, h2⟩ := h
  rcases itoa_cases v with ⟨h0, e⟩ | ⟨h0, e⟩
  · rw [e, tp_dec] at h2; rw [e]; omega
  · rw [e, tp_minus] at h2; rw [e]; simp; omega
theorem can_atoi {l : List UInt8} {v : Int} (h : Can l v) : Lib.atoiAll l = .ok v := by
  rw [Lib.atoiAll_short l (by have := can_len h; omega)]
  obtain ⟨rfl, h2⟩ := h
  rcases itoa_cases v with ⟨h0, e⟩ | ⟨h0, e⟩
  · rw [e, atoi_dec, Int.toNat_of_nonneg h0]; rfl
  · rw [e]
    have h3 := decFrom_dec (-v).toNat
    have h4 := (dec_digit (-v).toNat).1
    have : Lib.atoi (45 :: Lib.decDigits (-v).toNat) = some v := by
      have e0 : (Lib.decDigits (-v).toNat).isEmpty = false := by
        cases hd : Lib.decDigits (-v).toNat with
        | nil => exact absurd hd h4
        | cons a l => rfl
      simp only [Lib.atoi, Lib.decNat, e0, h3, beq_self_eq_true, if_true, if_false, Bool.false_eq_true, Option.map_some]
      congr 1; omega
    rw [this]; rfl
theorem can_inj {l : List UInt8} {v u : Int} (h : Can l v) (k : Can l u) : v = u := by
  have h1 := can_atoi h
  rw [can_atoi k] at h1
  injection h1 with h1
  exact h1.symm
/-- The reference's conditions. -/
def Good (l : List UInt8) : Prop := CanD (tp l) ∧ (tp l).length ≤ 9 ∧ ¬ (tp l = [48] ∧ l ≠ [48])
theorem can_of_good {l : List UInt8} (h : Good l) : ∃ v, Can l v := by
  obtain ⟨h1, h2, h3⟩ := h
  obtain ⟨u, hu, hp⟩ := dec_of _ (tp l) rfl h1
  by_cases hm : ∃ t, l = 45 :: t
  · obtain ⟨t, rfl⟩ := hm
    rw [tp_minus] at hu hp h2 h3
    have hu1 : 1 ≤ u := by
      by_cases h0 : u = 0
      · subst h0
        rw [Lib.decDigits, dif_pos (by omega)] at hu
        exact absurd ⟨hu.symm, by simp⟩ h3
      · omega
    refine ⟨-(u : Int), ?_, by rw [tp_minus]; exact h2⟩
    rw [Lib.itoa_neg u hu1, hu]
  · have ht : tp l = l := tp_other l (fun t e => hm ⟨t, e⟩)
    rw [ht] at hu h2
    exact ⟨(u : Int), by rw [Lib.itoa_nonneg, hu], by rw [ht]; exact h2⟩
theorem good_of_can {l : List UInt8} {v : Int} (h : Can l v) : Good l := by
  obtain ⟨rfl, h2⟩ := h
  rcases itoa_cases v with ⟨h0, e⟩ | ⟨h0, e⟩
  · rw [e, tp_dec] at h2
    rw [e]
    refine ⟨by rw [tp_dec]; exact canD_dec _, by rw [tp_dec]; exact h2, ?_⟩
    rw [tp_dec]
    rintro ⟨a, b⟩
    exact b a
  · rw [e, tp_minus] at h2
    rw [e]
    refine ⟨by rw [tp_minus]; exact canD_dec _, by rw [tp_minus]; exact h2, ?_⟩
    rw [tp_minus]
    rintro ⟨a, b⟩
    have h3 := decFrom_dec (-v).toNat
    rw [a] at h3
    have h4 : Lib.decFrom 0 [48] = some 0 := by decide
    rw [h4] at h3
    have := Option.some.inj h3
    omega

theorem mem_dropWhile {p : UInt8 → Bool} {b : UInt8} (hp : p b = false) : ∀ l : List UInt8, b ∈ l → b ∈ l.dropWhile p
  | a :: l, h => by
    rw [List.dropWhile_cons]
    split
    · rename_i ha
      rcases List.mem_cons.1 h with rfl | h
      · rw [hp] at ha; cases ha
      · exact mem_dropWhile hp l h
    · exact h
theorem dropWhile_all {p : UInt8 → Bool} : ∀ l : List UInt8, (∀ b ∈ l, p b = true) → l.dropWhile p = []
  | [], _ => rfl
  | a :: l, h => by
    rw [List.dropWhile_cons, if_pos (h a (by simp))]
    exact dropWhile_all l (fun b hb => h b (by simp [hb]))
def digL : List UInt8 := [48, 49, 50, 51, 52, 53, 54, 55, 56, 57]
theorem digL_iff : ∀ c : Fin 256, digL.contains (UInt8.ofNat c.val) = decide (48 ≤ c.val ∧ c.val ≤ 57) := by decide +kernel
theorem digL_of (b : UInt8) : digL.contains b = true ↔ IsDig b := by
  have h := digL_iff ⟨b.toNat, UInt8.toNat_lt b⟩
  have e : UInt8.ofNat b.toNat = b := by simp
  simp only [e] at h
  rw [h, decide_eq_true_iff]; rfl
theorem trim_nil (d : List UInt8) : Lib.trimS d digL = [] ↔ ∀ b ∈ d, IsDig b := by
  unfold Lib.trimS Lib.trimLeftS Lib.trimRightS
  constructor
  · intro h b hb
    by_cases hd : IsDig b
    · exact hd
    · have hf : digL.contains b = false := by rw [Bool.eq_false_iff]; intro e; exact hd ((digL_of b).1 e)
      have h1 := mem_dropWhile hf d.reverse (by simpa using hb)
      have h2 := mem_dropWhile hf _ (List.mem_reverse.2 h1)
      rw [h] at h2
      cases h2
  · intro h
    rw [dropWhile_all (p := (digL.contains ·)) d.reverse (fun b hb => (digL_of b).2 (h b (by simpa using hb)))]
    rfl
end Go.Proofs.YtafolceicpkhoaaDoor.Pol
