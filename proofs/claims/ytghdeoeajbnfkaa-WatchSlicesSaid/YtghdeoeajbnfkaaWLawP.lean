/- What cuts share, and how many cells they have: the reference's words against the watch's. -/
import Derived.Test.YtghdeoeajbnfkaaWCuts
import Derived.Test.YtghdeoeajbnfkaaWLabP
import Derived.Test.YtghdeoeajbnfkaaWDiffOf
import Derived.Test.YtghdeoeajbnfkaaMapPair
import Derived.Test.YtghdeoeajbnfkaaWGroupsA
namespace Go.Proofs.Ytghdeoeajbnfkaa.WSl
open Go.RowKit Go.Proofs.YtghdeoeajbnfkaaW.PrintWords Go.Proofs.YtghdeoeajbnfkaaW.PrintLast Go.Proofs.YtghdeoeajbnfkaaW.PrintMore Go.Proofs.Ytghdeoeajbnfkaa.WMem Go.Proofs.Ytghdeoeajbnfkaa.PWatchSlices Go.Proofs.Ytghdeoeajbnfkaa.MapPair
set_option linter.unusedSimpArgs false
set_option linter.unusedVariables false

theorem slOf_o (mm : Nat → Nat) (a : Cu) (ha : a.ok) (h : a.f < a.t) : (slOf mm a).o = a.f := by
  obtain ⟨h1, h2, h3⟩ := ha
  have : a.t ≤ a.room := by unfold Cu.room; split <;> omega
  show (if a.room = a.f then 0 else a.f) = a.f
  rw [if_neg (by omega)]
theorem slOf_n (mm : Nat → Nat) (a : Cu) : (slOf mm a).n = a.t - a.f := rfl
theorem slOf_b (mm : Nat → Nat) (a : Cu) : (slOf mm a).b = mm a.m := rfl

theorem appr_cut (mm : Nat → Nat) (hinj : ∀ i j, i < 3 → j < 3 → mm i = mm j → i = j) (a b : Cu) (ha : a.ok) (hb : b.ok) :
    appr (slOf mm a) (slOf mm b) = if a.m = b.m ∧ a.f < a.t ∧ b.f ≤ a.f ∧ a.f < b.t then ((a.f : Int) - b.f) else -1 := by
  unfold appr
  by_cases h1 : a.f < a.t
  · by_cases h2 : b.f < b.t
    · rw [slOf_o mm a ha h1, slOf_o mm b hb h2, slOf_n, slOf_n, slOf_b, slOf_b]
      by_cases h3 : a.m = b.m ∧ a.f < a.t ∧ b.f ≤ a.f ∧ a.f < b.t
      · rw [if_pos h3, if_pos ⟨by omega, by rw [h3.1], h3.2.2.1, by omega⟩]
        omega
      · rw [if_neg h3, if_neg (fun h => h3 ⟨hinj _ _ ha.1 hb.1 h.2.1, h1, h.2.2.1, by omega⟩)]
    · have hn : (slOf mm b).n = 0 := by rw [slOf_n]; omega
      have := hb.2.1
      rw [if_neg (fun h => by have h3 := h.2.2.1; have h4 := h.2.2.2; rw [hn] at h4; omega), if_neg (fun h => by omega)]
  · have hn : (slOf mm a).n = 0 := by rw [slOf_n]; omega
    rw [if_neg (fun h => by have := h.1; omega), if_neg (fun h => h1 h.2.1)]

theorem mx_cases (x y : Int) : ∃ z, mx x y = z ∧ (z = x ∧ y ≤ x ∨ z = y ∧ x ≤ y) := by
  unfold mx
  split
  · exact ⟨_, rfl, .inr ⟨rfl, by omega⟩⟩
  · exact ⟨_, rfl, .inl ⟨rfl, by omega⟩⟩
theorem mn_cases (x y : Int) : ∃ z, mn x y = z ∧ (z = x ∧ x ≤ y ∨ z = y ∧ y ≤ x) := by
  unfold mn
  split
  · exact ⟨_, rfl, .inr ⟨rfl, by omega⟩⟩
  · exact ⟨_, rfl, .inl ⟨rfl, by omega⟩⟩
theorem three_eq {a b c a' b' c' : Int} (h1 : a = a') (h2 : b = b') (h3 : c = c') : some (a, b, c) = some (a', b', c') := by rw [h1, h2, h3]

theorem ovr_cuts (mm : Nat → Nat) (hinj : ∀ i j, i < 3 → j < 3 → mm i = mm j → i = j) (a b : Cu) (ha : a.ok) (hb : b.ok) :
    cornlaw2_shared.f a.m a.f a.t b.m b.f b.t = some (ovr (slOf mm a) (slOf mm b)) := by
  have e1 := appr_cut mm hinj a b ha hb
  have e2 := appr_cut mm hinj b a hb ha
  obtain ⟨a1, a2, a3⟩ := ha
  obtain ⟨b1, b2, b3⟩ := hb
  have hw : ∀ i : Int, 0 ≤ i → i ≤ 1000001 → wrap64 i = i := wrap_small
  obtain ⟨lo, hlo, hlo2⟩ := mx_cases (a.f : Int) b.f
  obtain ⟨hi, hhi, hhi2⟩ := mn_cases (a.t : Int) b.t
  unfold cornlaw2_shared.f ovr
  rw [hlo, hhi, slOf_n, slOf_n]
  generalize appr (slOf mm a) (slOf mm b) = p at e1
  generalize appr (slOf mm b) (slOf mm a) = q at e2
  clear hlo hhi
  by_cases hm : a.m = b.m
  · rw [if_pos (by omega)]
    by_cases hh : hi ≤ lo
    · rw [if_pos hh]
      have h1 : p = -1 := by rw [e1, if_neg (by omega)]
      have h2 : q = -1 := by rw [e2, if_neg (by omega)]
      rw [h1, h2]
      rfl
    · rw [if_neg hh, hw _ (by omega) (by omega), hw _ (by omega) (by omega), hw _ (by omega) (by omega)]
      by_cases h1 : b.f ≤ a.f
      · have hp : p = (a.f : Int) - b.f := by rw [e1, if_pos (by omega)]
        rw [if_pos (by omega)]
        exact three_eq (by omega) (by omega) (by split <;> omega)
      · have hp : p = -1 := by rw [e1, if_neg (by omega)]
        have hq : q = (b.f : Int) - a.f := by rw [e2, if_pos (by omega)]
        rw [if_neg (by omega), if_pos (by omega)]
        exact three_eq (by omega) (by omega) (by split <;> omega)
  · rw [if_neg (by omega)]
    have h1 : p = -1 := by rw [e1, if_neg (by omega)]
    have h2 : q = -1 := by rw [e2, if_neg (by omega)]
    rw [h1, h2]
    rfl

/-- Where two slices share each octet. -/
theorem sam_cuts (mm : Nat → Nat) (hinj : ∀ i j, i < 3 → j < 3 → mm i = mm j → i = j) (a b : Cu) (ha : a.ok) (hb : b.ok) :
    sam (slOf mm a) (slOf mm b) = (decide ((a.t : Int) - a.f = (b.t : Int) - b.f) && decide ((ovr (slOf mm a) (slOf mm b)).2.2 = (a.t : Int) - a.f)) := by
  have e := ovr_cuts mm hinj a b ha hb
  unfold sam
  rw [slOf_n, slOf_n]
  generalize ovr (slOf mm a) (slOf mm b) = r at e
  obtain ⟨r1, r2, r3⟩ := r
  obtain ⟨a1, a2, a3⟩ := ha
  obtain ⟨b1, b2, b3⟩ := hb
  have hw : ∀ i : Int, 0 ≤ i → i ≤ 1000001 → wrap64 i = i := wrap_small
  obtain ⟨lo, hlo, hlo2⟩ := mx_cases (a.f : Int) b.f
  obtain ⟨hi, hhi, hhi2⟩ := mn_cases (a.t : Int) b.t
  have key : (a.t - a.f = b.t - b.f) → r3 = (a.t : Int) - a.f → r1 = 0 ∧ r2 = 0 := by
    intro h1 h2
    unfold cornlaw2_shared.f at e
    rw [hlo, hhi] at e
    split at e
    · split at e
      · simp only [Option.some.injEq, Prod.mk.injEq] at e
        omega
      · next h3 h4 =>
        rw [hw _ (by omega) (by omega), hw _ (by omega) (by omega), hw _ (by omega) (by omega)] at e
        simp only [Option.some.injEq, Prod.mk.injEq] at e
        omega
    · simp only [Option.some.injEq, Prod.mk.injEq] at e
      omega
  rw [Bool.eq_iff_iff]
  simp only [Bool.and_eq_true, decide_eq_true_eq]
  constructor
  · rintro ⟨h1, h2, h3, h4⟩
    exact ⟨by omega, by omega⟩
  · rintro ⟨h1, h2⟩
    obtain ⟨h3, h4⟩ := key (by omega) h2
    exact ⟨by omega, h3, h4, by omega⟩

/-- The pairs with slice i, among the first K slices. -/
def wrow (l : List Sl) (i : Nat) (out : List Pr) : Nat → List Pr
  | 0 => out
  | K + 1 => if i < K ∧ mee l i K = true then wrow l i out K ++ [⟨i, K⟩] else wrow l i out K
/-- The pairs with the slices up to i. -/
def wall (l : List Sl) : Nat → List Pr
  | 0 => []
  | i + 1 => wrow l i (wall l i) l.length
theorem wrow_low (l : List Sl) (i : Nat) (out : List Pr) : ∀ K, K ≤ i + 1 → wrow l i out K = out
  | 0, _ => rfl
  | K + 1, h => by
    unfold wrow
    rw [if_neg (fun h2 => by omega)]
    exact wrow_low l i out K (by omega)
theorem wrow_eq (l : List Sl) (i : Nat) (out : List Pr) : ∀ q, wrow l i out (i + 1 + q) = mrow l i out q
  | 0 => wrow_low l i out (i + 1) (by omega)
  | q + 1 => by
    have ih := wrow_eq l i out q
    show wrow l i out (i + 1 + q + 1) = _
    unfold wrow mrow
    rw [ih]
    by_cases hm : mee l i (i + 1 + q) = true
    · rw [if_pos ⟨by omega, hm⟩, if_pos hm]
    · rw [if_neg (fun h => hm h.2), if_neg hm]
theorem wall_eq (l : List Sl) : ∀ k, k ≤ l.length → wall l k = mall l k
  | 0, _ => rfl
  | k + 1, h => by
    unfold wall mall
    rw [wall_eq l k (by omega)]
    have := wrow_eq l k (mall l k) (l.length - (k + 1))
    rwa [show k + 1 + (l.length - (k + 1)) = l.length by omega] at this
theorem wrow_le (l : List Sl) (i : Nat) (out : List Pr) : ∀ K, (wrow l i out K).length ≤ out.length + K
  | 0 => Nat.le_refl _
  | K + 1 => by
    have := wrow_le l i out K
    unfold wrow
    split
    · simp; omega
    · omega
theorem wall_le (l : List Sl) : ∀ k, (wall l k).length ≤ k * l.length
  | 0 => by simp [wall]
  | k + 1 => by
    have h1 := wall_le l k
    have h2 := wrow_le l k (wall l k) l.length
    unfold wall
    rw [Nat.succ_mul]
    omega

/-- The cells of a cut's first positions; of the first cuts. -/
def pS (c : Cu) (M : List (Int × Int)) : Nat → List (Int × Int)
  | 0 => M
  | j + 1 => pput (pS c M j) c.m ((c.f + j : Nat) : Int)
def pA (cs : List Cu) : Nat → List (Int × Int)
  | 0 => []
  | k + 1 => match cs[k]? with
    | some c => pS c (pA cs k) (c.t - c.f)
    | none => pA cs k

/-- Pairs against cells. -/
def Cells (mm : Nat → Nat) (P : List (Int × Int)) (M : List (Nat × Nat)) : Prop :=
  ∃ L : List (Nat × Nat), (∀ x ∈ L, x.1 < 3) ∧ P = L.map (fun x => ((x.1 : Int), (x.2 : Int))) ∧ M = L.map (fun x => (mm x.1, x.2))
theorem Cells.put {mm : Nat → Nat} (hinj : ∀ i j, i < 3 → j < 3 → mm i = mm j → i = j) {P : List (Int × Int)} {M : List (Nat × Nat)} (h : Cells mm P M) (m p : Nat) (hm : m < 3) : Cells mm (pput P m p) (mark M (mm m, p)) := by
  obtain ⟨L, h1, rfl, rfl⟩ := h
  have e1 : ((m : Int), (p : Int)) ∈ L.map (fun x => ((x.1 : Int), (x.2 : Int))) ↔ (m, p) ∈ L := by
    rw [List.mem_map]
    constructor
    · rintro ⟨⟨x, y⟩, hx, he⟩
      simp only [Prod.mk.injEq] at he
      obtain rfl : x = m := by omega
      obtain rfl : y = p := by omega
      exact hx
    · intro hx; exact ⟨_, hx, rfl⟩
  have e2 : (mm m, p) ∈ L.map (fun x => (mm x.1, x.2)) ↔ (m, p) ∈ L := by
    rw [List.mem_map]
    constructor
    · rintro ⟨⟨x, y⟩, hx, he⟩
      simp only [Prod.mk.injEq] at he
      obtain rfl : x = m := hinj _ _ (h1 _ hx) hm he.1
      obtain rfl : y = p := he.2
      exact hx
    · intro hx; exact ⟨_, hx, rfl⟩
  unfold pput mark
  by_cases hin : (m, p) ∈ L
  · rw [if_pos (e1.2 hin), if_pos (e2.2 hin)]
    exact ⟨L, h1, rfl, rfl⟩
  · rw [if_neg (fun h => hin (e1.1 h)), if_neg (fun h => hin (e2.1 h))]
    refine ⟨L ++ [(m, p)], fun x hx => ?_, by simp, by simp⟩
    rcases List.mem_append.1 hx with hx | hx
    · exact h1 x hx
    · rw [List.mem_singleton.1 hx]; exact hm
theorem Cells.row {mm : Nat → Nat} (hinj : ∀ i j, i < 3 → j < 3 → mm i = mm j → i = j) {P : List (Int × Int)} {M : List (Nat × Nat)} (h : Cells mm P M) (c : Cu) (hc : c.ok) : ∀ j, j ≤ c.t - c.f → Cells mm (pS c P j) (covS (slOf mm c) M j)
  | 0, _ => h
  | j + 1, hj => by
    have ih := Cells.row hinj h c hc j (by omega)
    unfold pS covS
    rw [slOf_o mm c hc (by omega), slOf_b]
    exact ih.put hinj c.m (c.f + j) hc.1
theorem Cells.all {mm : Nat → Nat} (hinj : ∀ i j, i < 3 → j < 3 → mm i = mm j → i = j) (cs : List Cu) (hok : ∀ c ∈ cs, c.ok) : ∀ k, k ≤ cs.length → Cells mm (pA cs k) (covA (cs.map (slOf mm)) k)
  | 0, _ => ⟨[], by simp, rfl, rfl⟩
  | k + 1, hk => by
    have ih := Cells.all hinj cs hok k (by omega)
    unfold pA covA
    have e1 : cs[k]? = some cs[k] := List.getElem?_eq_getElem (by omega)
    have e2 : (cs.map (slOf mm)).getD k sl0 = slOf mm cs[k] := by
      rw [List.getD_eq_getElem?_getD, List.getElem?_map, e1]
      rfl
    rw [e1, e2]
    exact ih.row hinj cs[k] (hok _ (List.getElem_mem _)) _ (Nat.le_refl _)
theorem cells_len {mm : Nat → Nat} {P : List (Int × Int)} {M : List (Nat × Nat)} (h : Cells mm P M) : P.length = M.length := by
  obtain ⟨L, _, rfl, rfl⟩ := h
  simp

theorem small_wf (x : Nat) (h : x ≤ 1000000) : (Lit.int .i64 (x : Int)).wf = true := by
  exact WalkArith.wf_i64 (by omega)

end Go.Proofs.Ytghdeoeajbnfkaa.WSl
