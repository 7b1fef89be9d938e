/- Numbers as text: what Itoa writes Atoi reads; and splitting at a byte, in plain lists. -/
import Derived.Lib.Atoi
import Derived.Lib.ItoaMem
import Derived.Lib.ItoaLen
import Derived.Lib.Split
namespace Go.Proofs.YtafolceicpkhoaaDoor.Pol
set_option linter.unusedVariables false

theorem digitVal_dig (d : Nat) (h : d < 10) : Lib.digitVal (UInt8.ofNat (48 + d)) = some d := by
  have : ∀ d : Fin 10, Lib.digitVal (UInt8.ofNat (48 + d.val)) = some d.val := by decide
  exact this ⟨d, h⟩
theorem decFrom_append (l r : List UInt8) : ∀ acc : Nat, Lib.decFrom acc (l ++ r) = (Lib.decFrom acc l).bind (fun m => Lib.decFrom m r) := by
  induction l with
  | nil => intro acc; rfl
  | cons b l ih =>
    intro acc
    simp only [List.cons_append, Lib.decFrom]
    cases Lib.digitVal b with
    | none => rfl
    | some d => exact ih _
theorem decFrom_dec : ∀ u : Nat, Lib.decFrom 0 (Lib.decDigits u) = some u := by
  intro u
  induction u using Nat.strongRecOn with
  | ind u ih =>
    rw [Lib.decDigits]
    by_cases h : u < 10
    · rw [dif_pos h]
      simp only [Lib.decFrom, digitVal_dig u h]
      congr 1; omega
    · rw [dif_neg h, decFrom_append, ih (u / 10) (by omega)]
      simp only [Option.bind_some, Lib.decFrom, digitVal_dig (u % 10) (by omega)]
      congr 1; omega
theorem dec_digit : ∀ u : Nat, Lib.decDigits u ≠ [] ∧ ∀ b ∈ Lib.decDigits u, 48 ≤ b.toNat ∧ b.toNat ≤ 57 := by
  have one : ∀ d : Fin 10, 48 ≤ (UInt8.ofNat (48 + d.val)).toNat ∧ (UInt8.ofNat (48 + d.val)).toNat ≤ 57 := by decide
  intro u
  induction u using Nat.strongRecOn with
  | ind u ih =>
    rw [Lib.decDigits]
    by_cases h : u < 10
    · rw [dif_pos h]
      exact ⟨by simp, fun b hb => by rw [List.mem_singleton.1 hb]; exact one ⟨u, h⟩⟩
    · rw [dif_neg h]
      refine ⟨by simp, fun b hb => ?_⟩
      rcases List.mem_append.1 hb with hb | hb
      · exact (ih (u / 10) (by omega)).2 b hb
      · rw [List.mem_singleton.1 hb]; exact one ⟨u % 10, by omega⟩
theorem atoi_dec (u : Nat) : Lib.atoi (Lib.decDigits u) = some (u : Int) := by
  obtain ⟨h1, h2⟩ := dec_digit u
  have h3 := decFrom_dec u
  cases hl : Lib.decDigits u with
  | nil => exact absurd hl h1
  | cons b r =>
    rw [hl] at h2 h3
    have hb := h2 b (by simp)
    have n45 : (b == 45) = false := by
      rw [beq_eq_false_iff_ne]; intro e; rw [e] at hb; revert hb; decide
    have n43 : (b == 43) = false := by
      rw [beq_eq_false_iff_ne]; intro e; rw [e] at hb; revert hb; decide
    simp only [Lib.atoi, n45, n43, Lib.decNat, List.isEmpty_cons, if_false, Bool.false_eq_true, h3, Option.map_some]
theorem itoa_dec (n : Int) (h : 0 ≤ n) : Lib.itoa n = Lib.decDigits n.toNat := by unfold Lib.itoa; rw [if_neg (by omega)]
theorem atoi_itoa (n : Int) (h : 0 ≤ n) : Lib.atoi (Lib.itoa n) = some n := by
  rw [itoa_dec n h, atoi_dec, Int.toNat_of_nonneg h]
theorem no_space {u : Nat} : ∀ b ∈ Lib.decDigits u, b ≠ 32 := fun b hb e => by
  have := (dec_digit u).2 b hb
  rw [e] at this
  revert this; decide
theorem trim_dec (u : Nat) : Lib.trimPrefix (Lib.decDigits u) [45] = Lib.decDigits u := by
  obtain ⟨h1, h2⟩ := dec_digit u
  cases hl : Lib.decDigits u with
  | nil => exact absurd hl h1
  | cons b r =>
    rw [hl] at h2
    have hb := h2 b (by simp)
    have n45 : b ≠ 45 := by intro e; rw [e] at hb; revert hb; decide
    unfold Lib.trimPrefix Lib.hasPrefix
    have hp : [(45 : UInt8)].isPrefixOf (b :: r) = false := by simp [List.isPrefixOf, Ne.symm n45]
    rw [hp]; simp

theorem indexByte_at (a r : List UInt8) (ha : ∀ b ∈ a, b ≠ 32) : Lib.indexByte (a ++ 32 :: r) 32 = (a.length : Int) := by
  induction a with
  | nil => simp [Lib.indexByte]
  | cons b a ih =>
    have hb : (b == 32) = false := beq_eq_false_iff_ne.2 (ha b (by simp))
    have ih := ih (fun x hx => ha x (by simp [hx]))
    have hne : ((a.length : Int) == -1) = false := by rw [beq_eq_false_iff_ne]; omega
    simp only [List.cons_append, Lib.indexByte, hb, ih, hne, Bool.false_eq_true, if_false, List.length_cons]
    push_cast; rfl
theorem indexByte_miss (a : List UInt8) (ha : ∀ b ∈ a, b ≠ 32) : Lib.indexByte a 32 = -1 := by
  induction a with
  | nil => rfl
  | cons b a ih =>
    have hb : (b == 32) = false := beq_eq_false_iff_ne.2 (ha b (by simp))
    have ih := ih (fun x hx => ha x (by simp [hx]))
    simp [Lib.indexByte, hb, ih]
theorem split_last (a : List UInt8) (ha : ∀ b ∈ a, b ≠ 32) (k : Nat) : Lib.splitB ⟨#[32]⟩ 0 k ⟨a.toArray⟩ = [⟨a.toArray⟩] := by
  refine Lib.splitB_miss _ _ _ _ ?_
  have h := Lib.index_one a 32
  rw [indexByte_miss a ha] at h
  simpa [Lib.indexB] using h
theorem split_more (a r : List UInt8) (ha : ∀ b ∈ a, b ≠ 32) (k : Nat) : Lib.splitB ⟨#[32]⟩ 0 (k + 1) ⟨(a ++ 32 :: r).toArray⟩ = ⟨a.toArray⟩ :: Lib.splitB ⟨#[32]⟩ 0 k ⟨r.toArray⟩ := by
  have hi : Lib.indexB ⟨(a ++ 32 :: r).toArray⟩ ⟨#[32]⟩ = (a.length : Int) := by
    have h := Lib.index_one (a ++ 32 :: r) 32
    rw [indexByte_at a r ha] at h
    simpa [Lib.indexB] using h
  rw [Lib.splitB_hit _ _ _ _ a.length hi]
  have e1 : (⟨(a ++ 32 :: r).toArray⟩ : ByteArray).extract 0 (a.length + 0) = ⟨a.toArray⟩ := by
    apply ByteArray.ext
    simp [ByteArray.data_extract]
  have e2 : (⟨(a ++ 32 :: r).toArray⟩ : ByteArray).extract (a.length + (⟨#[32]⟩ : ByteArray).size) (⟨(a ++ 32 :: r).toArray⟩ : ByteArray).size = ⟨r.toArray⟩ := by
    apply ByteArray.ext
    apply Array.toList_inj.1
    rw [Lib.extract_to_end]
    have hs : (⟨#[32]⟩ : ByteArray).size = 1 := rfl
    rw [hs]
    simp
  rw [e1, e2]
end Go.Proofs.YtafolceicpkhoaaDoor.Pol
