/- Lines and pieces, in plain lists. -/
import Derived.Test.YtafolceicpkhoaaDoorCanon
import Derived.Lib.SplitLaws
namespace Go.Proofs.YtafolceicpkhoaaDoor.Pol
set_option linter.unusedVariables false
set_option linter.unusedSimpArgs false

theorem indexByte_atc (c : UInt8) (a r : List UInt8) (ha : ∀ b ∈ a, b ≠ c) : Lib.indexByte (a ++ c :: r) c = (a.length : Int) := by
  induction a with
  | nil => simp [Lib.indexByte]
  | cons b a ih =>
    have hb : (b == c) = false := beq_eq_false_iff_ne.2 (ha b (by simp))
    have ih := ih (fun x hx => ha x (by simp [hx]))
    have hne : ((a.length : Int) == -1) = false := by rw [beq_eq_false_iff_ne]; omega
    simp only [List.cons_append, Lib.indexByte, hb, ih, hne, Bool.false_eq_true, if_false, List.length_cons]
    push_cast; rfl
theorem indexByte_missc (c : UInt8) (a : List UInt8) (ha : ∀ b ∈ a, b ≠ c) : Lib.indexByte a c = -1 := by
  induction a with
  | nil => rfl
  | cons b a ih =>
    have hb : (b == c) = false := beq_eq_false_iff_ne.2 (ha b (by simp))
    have ih := ih (fun x hx => ha x (by simp [hx]))
    simp [Lib.indexByte, hb, ih]
theorem split_lastc (c : UInt8) (a : List UInt8) (ha : ∀ b ∈ a, b ≠ c) (k : Nat) : Lib.splitB ⟨#[c]⟩ 0 k ⟨a.toArray⟩ = [⟨a.toArray⟩] := by
  refine Lib.splitB_miss _ _ _ _ ?_
  have h := Lib.index_one a c
  rw [indexByte_missc c a ha] at h
  simpa [Lib.indexB] using h
theorem split_morec (c : UInt8) (a r : List UInt8) (ha : ∀ b ∈ a, b ≠ c) (k : Nat) : Lib.splitB ⟨#[c]⟩ 0 (k + 1) ⟨(a ++ c :: r).toArray⟩ = ⟨a.toArray⟩ :: Lib.splitB ⟨#[c]⟩ 0 k ⟨r.toArray⟩ := by
  have hi : Lib.indexB ⟨(a ++ c :: r).toArray⟩ ⟨#[c]⟩ = (a.length : Int) := by
    have h := Lib.index_one (a ++ c :: r) c
    rw [indexByte_atc c a r ha] at h
    simpa [Lib.indexB] using h
  rw [Lib.splitB_hit _ _ _ _ a.length hi]
  have e1 : (⟨(a ++ c :: r).toArray⟩ : ByteArray).extract 0 (a.length + 0) = ⟨a.toArray⟩ := by
    apply ByteArray.ext
    simp [ByteArray.data_extract]
  have e2 : (⟨(a ++ c :: r).toArray⟩ : ByteArray).extract (a.length + (⟨#[c]⟩ : ByteArray).size) (⟨(a ++ c :: r).toArray⟩ : ByteArray).size = ⟨r.toArray⟩ := by
    apply ByteArray.ext
    apply Array.toList_inj.1
    rw [Lib.extract_to_end]
    have hs : (⟨#[c]⟩ : ByteArray).size = 1 := rfl
    rw [hs]
    simp
  rw [e1, e2]
def ba (l : List UInt8) : ByteArray := ⟨l.toArray⟩
theorem ba_list (l : List UInt8) : (ba l).data.toList = l := by simp [ba]
theorem ba_of (s : ByteArray) : ba s.data.toList = s := by
  cases s with | mk d => simp [ba]
theorem ba_size (l : List UInt8) : (ba l).size = l.length := by simp [ba, ByteArray.size]
/-- Pieces with a byte between them. -/
def glue (c : UInt8) : List (List UInt8) → List UInt8
  | [] => []
  | [a] => a
  | a :: b :: r => a ++ c :: glue c (b :: r)
theorem glue_cons (c : UInt8) (a : List UInt8) (ls : List (List UInt8)) (h : ls ≠ []) : glue c (a :: ls) = a ++ c :: glue c ls := by
  cases ls with
  | nil => exact absurd rfl h
  | cons b r => rfl
theorem count_glue (c : UInt8) : ∀ ls : List (List UInt8), ls ≠ [] → (∀ l ∈ ls, ∀ b ∈ l, b ≠ c) → (glue c ls).count c + 1 = ls.length
  | [a], _, h => by
    have : a.count c = 0 := List.count_eq_zero.2 (fun hm => h a (by simp) c hm rfl)
    simp [glue, this]
  | a :: b :: r, _, h => by
    have ha : a.count c = 0 := List.count_eq_zero.2 (fun hm => h a (by simp) c hm rfl)
    have ih := count_glue c (b :: r) (by simp) (fun l hl => h l (by simp [hl]))
    rw [glue, List.count_append, List.count_cons_self, ha]
    simp only [List.length_cons] at ih ⊢
    omega
theorem split_glue (c : UInt8) : ∀ ls : List (List UInt8), ls ≠ [] → (∀ l ∈ ls, ∀ b ∈ l, b ≠ c) → Lib.splitB ⟨#[c]⟩ 0 (ls.length - 1) (ba (glue c ls)) = ls.map ba
  | [a], _, h => split_lastc c a (h a (by simp)) _
  | a :: b :: r, _, h => by
    have ih := split_glue c (b :: r) (by simp) (fun l hl => h l (by simp [hl]))
    have e : (a :: b :: r).length - 1 = ((b :: r).length - 1) + 1 := by simp
    rw [e]
    show Lib.splitB ⟨#[c]⟩ 0 _ ⟨(a ++ c :: glue c (b :: r)).toArray⟩ = _
    rw [split_morec c a _ (h a (by simp))]
    show _ :: Lib.splitB ⟨#[c]⟩ 0 _ (ba (glue c (b :: r))) = _
    rw [ih]; rfl
theorem countB_one (l : List UInt8) (c : UInt8) : Lib.countB (ba l) ⟨#[c]⟩ = l.count c := by
  show Lib.count (l.toArray.toList) [c] = _
  rw [Lib.count_one]
/-- Splitting what was glued. -/
theorem pieces_glue (c : UInt8) (ls : List (List UInt8)) (h0 : ls ≠ []) (h : ∀ l ∈ ls, ∀ b ∈ l, b ≠ c) : Lib.splitB ⟨#[c]⟩ 0 (Lib.countB (ba (glue c ls)) ⟨#[c]⟩) (ba (glue c ls)) = ls.map ba := by
  have h1 := count_glue c ls h0 h
  rw [countB_one, show (glue c ls).count c = ls.length - 1 by omega]
  exact split_glue c ls h0 h

/-- Lines that end, and what stands behind the last one. -/
def ended (ls : List (List UInt8)) : List UInt8 := ls.flatMap (· ++ [10])
theorem lines_of : ∀ s : List UInt8, ∃ ls rem, s = ended ls ++ rem ∧ (∀ l ∈ ls, ∀ b ∈ l, b ≠ 10) ∧ (∀ b ∈ rem, b ≠ 10)
  | [] => ⟨[], [], rfl, by simp, by simp⟩
  | b :: r => by
    obtain ⟨ls, rem, h1, h2, h3⟩ := lines_of r
    by_cases hb : b = 10
    · subst hb
      exact ⟨[] :: ls, rem, by rw [h1]; rfl, by
        intro l hl
        rcases List.mem_cons.1 hl with rfl | hl
        · simp
        · exact h2 l hl, h3⟩
    · cases ls with
      | nil => exact ⟨[], b :: rem, by rw [h1]; rfl, by simp, by
          intro x hx
          rcases List.mem_cons.1 hx with rfl | hx
          · exact hb
          · exact h3 x hx⟩
      | cons l ls => exact ⟨(b :: l) :: ls, rem, by rw [h1]; rfl, by
          intro x hx
          rcases List.mem_cons.1 hx with rfl | hx
          · intro y hy
            rcases List.mem_cons.1 hy with rfl | hy
            · exact hb
            · exact h2 l (by simp) y hy
          · exact h2 x (by simp [hx]), h3⟩
theorem ended_cons (l : List UInt8) (ls : List (List UInt8)) : ended (l :: ls) = l ++ 10 :: ended ls := by simp [ended]
theorem ended_glue : ∀ ls : List (List UInt8), ls ≠ [] → ended ls = glue 10 ls ++ [10]
  | [a], _ => by simp [ended, glue]
  | a :: b :: r, _ => by
    rw [ended_cons, ended_glue (b :: r) (by simp), glue]; simp
theorem count_ended : ∀ ls : List (List UInt8), (∀ l ∈ ls, ∀ b ∈ l, b ≠ 10) → (ended ls).count 10 = ls.length
  | [], _ => rfl
  | a :: r, h => by
    have ha : a.count 10 = 0 := List.count_eq_zero.2 (fun hm => h a (by simp) 10 hm rfl)
    rw [ended_cons, List.count_append, List.count_cons_self, ha, count_ended r (fun l hl => h l (by simp [hl]))]
    simp
end Go.Proofs.YtafolceicpkhoaaDoor.Pol
