/- WatchLarge: the pure part: nil slices, and one that is not. -/
import Derived.Test.YtghdeoeajbnfkaaWGroups
import Derived.Test.YtghdeoeajbnfkaaWCover
namespace Go.Proofs.Ytghdeoeajbnfkaa.WSl
open Go.RowKit Go.Proofs.Ytghdeoeajbnfkaa.WMem
set_option linter.unusedSimpArgs false

theorem ovr_nil (x : Sl) : ovr sl0 x = (0, 0, 0) := by
  have h1 : appr sl0 x = -1 := by unfold appr; rw [if_neg (fun h => by have := h.1; simp [sl0] at this)]
  have h2 : appr x sl0 = -1 := by unfold appr; rw [if_neg (fun h => by have h3 := h.2.2.1; have h4 := h.2.2.2; simp [sl0] at h3 h4)]
  unfold ovr
  rw [h1, h2]
  rfl

/-- Nil slices, and a. -/
def nils (a : Sl) : Nat → List Sl
  | 0 => []
  | k + 1 => List.replicate k sl0 ++ [a]
theorem nils_len (a : Sl) : ∀ k, (nils a k).length = k
  | 0 => rfl
  | k + 1 => by simp [nils]
theorem nils_at (a : Sl) (k i : Nat) (hi : i + 1 < k) : (nils a k).getD i sl0 = sl0 := by
  cases k with
  | zero => omega
  | succ k => simp [nils, List.getD_eq_getElem?_getD, List.getElem?_append, show i < k by omega]
theorem nils_mem (a : Sl) (k : Nat) (s : Sl) (h : s ∈ nils a k) : s = sl0 ∨ s = a := by
  cases k with
  | zero => simp [nils] at h
  | succ k =>
    simp only [nils, List.mem_append, List.mem_replicate, List.mem_singleton] at h
    rcases h with h | h
    · exact .inl h.2
    · exact .inr h

theorem mrow_nil (a : Sl) (n i : Nat) : ∀ q, i + 1 + q ≤ n → mrow (nils a n) i [] q = []
  | 0, _ => rfl
  | q + 1, h => by
    have h1 : mee (nils a n) i (i + 1 + q) = false := by
      unfold mee
      rw [nils_at a n i (by omega), ovr_nil]
      rfl
    unfold mrow
    rw [h1]
    exact mrow_nil a n i q (by omega)
theorem mall_nil (a : Sl) (n : Nat) : ∀ k, k ≤ n → mall (nils a n) k = []
  | 0, _ => rfl
  | k + 1, h => by
    unfold mall
    rw [mall_nil a n k (by omega), nils_len]
    exact mrow_nil a n k _ (by omega)

theorem chk_nils (a : Sl) (n : Nat) : chk (nils a n) = if 100 < n ∨ 0 < n ∧ 2000 < a.n then 4 else 0 := by
  unfold chk
  rw [nils_len]
  by_cases h : 100 < n
  · rw [if_pos h, if_pos (.inl h)]
  · rw [if_neg h]
    by_cases h2 : 0 < n ∧ 2000 < a.n
    · have hex : ∃ s ∈ nils a n, 2000 < s.n := ⟨a, by
        cases n with
        | zero => omega
        | succ k => simp [nils], h2.2⟩
      rw [if_pos hex, if_pos (Or.inr h2)]
    · have hex : ¬ ∃ s ∈ nils a n, 2000 < s.n := by
        rintro ⟨s, hs, hn⟩
        rcases nils_mem a n s hs with rfl | rfl
        · simp [sl0] at hn
        · refine h2 ⟨?_, hn⟩
          cases n with
          | zero => simp [nils] at hs
          | succ k => omega
      rw [if_neg hex, if_neg (fun h3 => h3.elim h h2)]

theorem chk_two' (a b : Sl) (hb : b.n = 1) : chk [a, b] = if 2000 < a.n then 4 else 0 := by
  simp [chk, hb]
theorem chk_two'' (a b : Sl) (hb : b.n = 1) : chk [b, a] = if 2000 < a.n then 4 else 0 := by
  simp [chk, hb]

end Go.Proofs.Ytghdeoeajbnfkaa.WSl
