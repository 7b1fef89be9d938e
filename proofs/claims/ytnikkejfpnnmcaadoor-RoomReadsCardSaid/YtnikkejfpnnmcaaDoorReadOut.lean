/- Reading a policy, at every string: what comes out; the pieces; the words' index. -/
import Derived.Test.YtnikkejfpnnmcaaDoorDigits
import Derived.Lib.SplitLaws
namespace Go.Proofs.YtnikkejfpnnmcaaDoor.Pol
set_option linter.unusedVariables false
open Go.RowKit Go.Proofs.YtnikkejfpnnmcaaDoorW.PrintWords Go.Proofs.YtnikkejfpnnmcaaDoorW.PrintLast Go.Proofs.YtnikkejfpnnmcaaDoorW.PrintMore Go.Proofs.YtnikkejfpnnmcaaDoor.Policy
set_option linter.unusedSimpArgs false

/-- The pieces behind the first one are the numbers of a kind. -/
def GoodL (K : Int) (L : List ByteArray) (st m : Int) : Prop := (1 ≤ K ∧ K ≠ 2 ∧ ∃ x, L = [x] ∧ Can x.data.toList m ∧ st = 0) ∨ (K = 2 ∧ ∃ x y, L = [x, y] ∧ Can x.data.toList st ∧ Can y.data.toList m)
def Out (K : Int) (L : List ByteArray) (k st m er : Int) : Prop :=
  (∃ s' m', GoodL K L s' m' ∧ ((fault K s' m' = 0 ∧ k = K ∧ st = s' ∧ m = m' ∧ er = 0) ∨ (fault K s' m' ≠ 0 ∧ k = 0 ∧ st = 0 ∧ m = 0 ∧ er = fault K s' m'))) ∨
  ((∀ s' m', ¬ GoodL K L s' m') ∧ k = 0 ∧ st = 0 ∧ m = 0 ∧ er = 8)
theorem goodL_inj {K : Int} {L : List ByteArray} {a b c d : Int} (h : GoodL K L a b) (g : GoodL K L c d) : a = c ∧ b = d := by
  rcases h with ⟨h1, h2, x, rfl, h4, rfl⟩ | ⟨rfl, x, y, rfl, h4, h5⟩
  · rcases g with ⟨g1, g2, x', e, g4, rfl⟩ | ⟨rfl, _⟩
    · obtain rfl : x = x' := by simpa using e
      exact ⟨rfl, can_inj h4 g4⟩
    · exact absurd rfl h2
  · rcases g with ⟨_, g2, _⟩ | ⟨_, x', y', e, g4, g5⟩
    · exact absurd rfl g2
    · obtain ⟨rfl, rfl⟩ : x = x' ∧ y = y' := by simpa using e
      exact ⟨can_inj h4 g4, can_inj h5 g5⟩
theorem out_inj {K : Int} {L : List ByteArray} {a b c d a' b' c' d' : Int} (h : Out K L a b c d) (g : Out K L a' b' c' d') : a = a' ∧ b = b' ∧ c = c' ∧ d = d' := by
  rcases h with ⟨s1, m1, h1, h2⟩ | ⟨h1, h2⟩
  · rcases g with ⟨s2, m2, g1, g2⟩ | ⟨g1, _⟩
    · obtain ⟨rfl, rfl⟩ := goodL_inj h1 g1
      rcases h2 with ⟨z, rfl, rfl, rfl, rfl⟩ | ⟨z, rfl, rfl, rfl, rfl⟩ <;> rcases g2 with ⟨z', rfl, rfl, rfl, rfl⟩ | ⟨z', rfl, rfl, rfl, rfl⟩
      · exact ⟨rfl, rfl, rfl, rfl⟩
      · exact absurd z z'
      · exact absurd z' z
      · exact ⟨rfl, rfl, rfl, rfl⟩
    · exact absurd h1 (g1 _ _)
  · rcases g with ⟨s2, m2, g1, _⟩ | ⟨_, g2⟩
    · exact absurd g1 (h1 _ _)
    · obtain ⟨rfl, rfl, rfl, rfl⟩ := h2
      obtain ⟨rfl, rfl, rfl, rfl⟩ := g2
      exact ⟨rfl, rfl, rfl, rfl⟩
def OutSays (K : Int) (L : List ByteArray) (w : World) (e : Ending) (w' : World) : Prop :=
  ∃ k st m er, Out K L k st m er ∧ e = .returned (.tuple #[.agg #[.int .i64 k, .int .i64 st, .int .i64 m], .int .i64 er]) ∧ Below w.heap.size w w'
theorem out_bad {K : Int} {L : List ByteArray} (h : ∀ s' m', ¬ GoodL K L s' m') : Out K L 0 0 0 8 := .inr ⟨h, rfl, rfl, rfl, rfl⟩
theorem out_ok {K s m : Int} {L : List ByteArray} (h : GoodL K L s m) (hf : fault K s m = 0) : Out K L K s m 0 := .inl ⟨s, m, h, .inl ⟨hf, rfl, rfl, rfl, rfl⟩⟩
theorem out_fault {K s m : Int} {L : List ByteArray} (h : GoodL K L s m) (hf : fault K s m ≠ 0) : Out K L 0 0 0 (fault K s m) := .inl ⟨s, m, h, .inr ⟨hf, rfl, rfl, rfl, rfl⟩⟩

def fives : List ByteArray := [wd 0, wd 1, wd 2, wd 3, wd 4]
theorem idxFrom_any (x : ByteArray) : ∀ zs : List ByteArray, (∀ i, Lib.idxFromS zs x i = -1) ∨ ∃ k, k < zs.length ∧ ∀ i, Lib.idxFromS zs x i = ((i + k : Nat) : Int)
  | [] => .inl fun _ => rfl
  | z :: zs => by
    by_cases h : z = x
    · exact .inr ⟨0, by simp, fun i => by rw [Lib.idxFromS, if_pos h]; simp⟩
    · rcases idxFrom_any x zs with h1 | ⟨k, hk, h1⟩
      · exact .inl fun i => by rw [Lib.idxFromS, if_neg h, h1]
      · exact .inr ⟨k + 1, by simp; omega, fun i => by rw [Lib.idxFromS, if_neg h, h1]; congr 1; omega⟩
/-- The kind that a word names, 0: none; the reference's index says the same. -/
theorem kinds (a : ByteArray) : ∃ K : Int, 0 ≤ K ∧ K ≤ 5 ∧ Lib.idxOfS fives a = K - 1 ∧ ((1 ≤ K ∧ Lib.idxOfS (ByteArray.empty :: fives) a = K) ∨ (K = 0 ∧ Lib.idxOfS (ByteArray.empty :: fives) a < 1)) := by
  unfold Lib.idxOfS
  by_cases h0 : ByteArray.empty = a
  · subst h0
    refine ⟨0, by omega, by omega, by decide +kernel, .inr ⟨rfl, by decide +kernel⟩⟩
  · rw [Lib.idxFromS, if_neg h0]
    rcases idxFrom_any a fives with h1 | ⟨k, hk, h1⟩
    · exact ⟨0, by omega, by omega, by rw [h1]; rfl, .inr ⟨rfl, by rw [h1]; omega⟩⟩
    · have hk' : k < 5 := hk
      exact ⟨(k : Int) + 1, by omega, by omega, by rw [h1]; push_cast; omega, .inl ⟨by omega, by rw [h1]; push_cast; omega⟩⟩

theorem pieces_small (sep : ByteArray) : ∀ (k : Nat) (s : ByteArray), ∀ x ∈ Lib.splitB sep 0 k s, x.size ≤ s.size
  | 0, s, x, hx => by
    have : x = s := by simpa [Lib.splitB] using hx
    rw [this]; omega
  | k + 1, s, x, hx => by
    unfold Lib.splitB at hx
    split at hx
    · have : x = s := by simpa using hx
      rw [this]; omega
    · rcases List.mem_cons.1 hx with rfl | h
      · rw [ByteArray.size_extract]; omega
      · have := pieces_small sep k _ x h
        rw [ByteArray.size_extract] at this
        omega
/-- Splitting at spaces. -/
theorem splitAny (s : ByteArray) (hs : s.size ≤ 200000) : ∃ a L, (∀ x ∈ a :: L, x.size ≤ 200000) ∧ L.length ≤ 200000 ∧ ∀ (w : World) (mx : Int), w.cell? ⟨4, 0, none⟩ = some (.int .i64 mx) →
    Calls Tryd.prog 22 #[.string s, .string ⟨#[32]⟩] w fun e w' => e = .returned (.slice (some ⟨w.heap.size, 0, none⟩) (a :: L).length (a :: L).length) ∧ w' = w.alloc (.cells ((a :: L).map Value.string).toArray 9) := by
  have hl := Lib.splitB_all ⟨#[32]⟩ (by decide) 0 _ s rfl
  have hc := Lib.countB_le ⟨#[32]⟩ (by decide) _ s (Nat.le_refl _)
  have hm := pieces_small ⟨#[32]⟩ (Lib.countB s ⟨#[32]⟩) s
  have hw := fun (w : World) (mx : Int) (hx : w.cell? ⟨4, 0, none⟩ = some (.int .i64 mx)) => Tryd.strings_Split s ⟨#[32]⟩ mx w (by omega) hx (by decide)
  generalize Lib.splitB ⟨#[32]⟩ 0 (Lib.countB s ⟨#[32]⟩) s = P at *
  cases P with
  | nil => simp at hl
  | cons a L =>
    refine ⟨a, L, fun x hx => by have := hm x hx; omega, by simp at hl; omega, fun w mx hx => ?_⟩
    have h := hw w mx hx
    rw [← hl] at h
    exact h
theorem index5 (a : ByteArray) (K : Int) (hK : Lib.idxOfS fives a = K - 1) (b : Nat) (w : World) (hc : ∀ i, i < 5 → w.cell? ⟨b, i, none⟩ = some (.string (wd i))) : Calls Tryd.prog 23 #[.slice (some ⟨b, 0, none⟩) 5 5, .string a] w fun e w' => e = .returned (.int .i64 (K - 1)) ∧ w' = w := by
  have h := Tryd.slices_Index_string b 0 5 5 fives a w (by decide) (by omega) (fun i hi => by
    have hi' : i < 5 := by simpa [fives] using hi
    rw [Nat.zero_add, hc i hi']
    have : i = 0 ∨ i = 1 ∨ i = 2 ∨ i = 3 ∨ i = 4 := by omega
    rcases this with rfl | rfl | rfl | rfl | rfl <;> rfl)
  have e : fives.take 5 = fives := rfl
  rw [e, hK] at h
  exact h
/-- A number, or none. -/
theorem numberAny (s : ByteArray) (hs : s.size ≤ 200000) (w : World) (hT : Tabs w) (hE : Errs w) :
    Calls Tryd.prog 24 #[.string s] w fun e w' => ∃ n ok, e = .returned (.tuple #[.int .i64 n, .bool ok]) ∧ Below w.heap.size w w' ∧ ((ok = true ∧ Can s.data.toList n) ∨ (ok = false ∧ ∀ v, ¬ Can s.data.toList v)) := by
  by_cases h : ∃ v, Can s.data.toList v
  · obtain ⟨v, hv⟩ := h
    exact (number_yes s v hv w hT hE).mono fun e w' ⟨he, hb⟩ => ⟨v, true, he, hb, .inl ⟨rfl, hv⟩⟩
  · have hno : ∀ v, ¬ Can s.data.toList v := fun v hv => h ⟨v, hv⟩
    exact (number_no s hs hno w hT hE).mono fun e w' ⟨n, he, hb⟩ => ⟨n, false, he, hb, .inr ⟨rfl, hno⟩⟩
theorem digitsAny (s : ByteArray) (hs : s.size ≤ 200000) (w : World) (hE : Errs w) :
    Calls Tryd.prog 25 #[.string s, .int .i64 9] w fun e w' => ∃ n ok, e = .returned (.tuple #[.int .i64 n, .bool ok]) ∧ Below w.heap.size w w' ∧ ((ok = true ∧ Can s.data.toList n) ∨ (ok = false ∧ ∀ v, ¬ Can s.data.toList v)) := by
  by_cases h : ∃ v, Can s.data.toList v
  · obtain ⟨v, hv⟩ := h
    exact (digits_yes s v hv w hE).mono fun e w' ⟨he, hb⟩ => ⟨v, true, he, hb, .inl ⟨rfl, hv⟩⟩
  · have hno : ∀ v, ¬ Can s.data.toList v := fun v hv => h ⟨v, hv⟩
    exact (digits_no s hs hno w).mono fun e w' ⟨he, hb⟩ => ⟨0, false, he, hb, .inr ⟨rfl, hno⟩⟩
end Go.Proofs.YtnikkejfpnnmcaaDoor.Pol
